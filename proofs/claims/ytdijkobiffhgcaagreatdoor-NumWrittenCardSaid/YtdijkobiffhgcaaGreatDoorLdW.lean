/-
  math.Ldexp of a whole number up to 2^53. Conditions: as each says.
-/
import Derived.Test.YtdijkobiffhgcaaGreatDoorFltW
import Derived.Laws.BitsAllLaws
namespace Go.Proofs.YtdijkobiffhgcaaGreatDoor.Nu
open Go.RowKit Go.Lib

theorem u64_low63 (b : Nat) (h : b < 9223372036854775808) : bits .andNot .u64 (b : Int) 9223372036854775808 = (b : Int) := by
  have := u64_andNot_nat b 9223372036854775808 (by omega) (by omega)
  rw [show (9223372036854775808 : Int) = ((9223372036854775808 : Nat) : Int) from rfl, this]
  have e : b &&& (18446744073709551615 - 9223372036854775808) = b % 9223372036854775808 := Nat.and_two_pow_sub_one_eq_mod b 63
  rw [e, Nat.mod_eq_of_lt h]

set_option maxRecDepth 100000 in
theorem abs_pos (b : Nat) (h : b < 9223372036854775808) (w : World) : Calls Tryz.prog 41 #[.float .f64 b] w fun r w' => r = .returned (.float .f64 b) ∧ w = w' := by
  have h1 := u64_low63 b h
  have h2 := run_bits b
  have h3 := run_from b
  clear h
  go_enter Tryz.func41, Tryz.ntmps41
  go_wp2
  go_ret
  exact ⟨rfl, rfl⟩

set_option maxRecDepth 100000 in
theorem isinf_zero (b : Nat) (h : b < 9218868437227405312) (w : World) : Calls Tryz.prog 20 #[.float .f64 b, .int .i64 0] w fun r w' => r = .returned (.bool false) ∧ w = w' := by
  have h1 : (FloatKind.f64.format.order b 9218868437227405311 == some .gt) = false := by
    show (Ieee.double.order b 9218868437227405311 == some .gt) = false
    rw [order_pos b _ (by omega) (by omega)]
    have : compare b 9218868437227405311 ≠ .gt := fun hc => by have := Nat.compare_eq_gt.1 hc; omega
    revert this
    cases compare b 9218868437227405311 <;> simp
  have c1 := abs_pos b (by omega) w
  clear h
  go_enter Tryz.func20, Tryz.ntmps20
  go_wp2_with (go_at_call 41; refine c1.mono ?_; rintro e w' ⟨rfl, rfl⟩)
  go_ret
  exact ⟨rfl, rfl⟩

set_option maxRecDepth 100000 in
theorem isnan_no (b : Nat) (h : b < 9218868437227405312) (w : World) : Calls Tryz.prog 111 #[.float .f64 b] w fun r w' => r = .returned (.bool false) ∧ w = w' := by
  have h1 : (FloatKind.f64.format.order b b != some .eq) = false := by
    show (Ieee.double.order b b != some .eq) = false
    rw [order_pos b _ (by omega) (by omega), Nat.compare_eq_eq.2 rfl]
    rfl
  clear h
  go_enter Tryz.func111, Tryz.ntmps111
  go_wp2
  go_ret
  exact ⟨rfl, rfl⟩

set_option maxRecDepth 100000 in
theorem normal_any (b : Nat) (h0 : 4503599627370496 ≤ b) (h : b < 9218868437227405312) (w : World) : Calls Tryz.prog 143 #[.float .f64 b] w fun r w' => r = .returned (.tuple #[.float .f64 b, .int .i64 0]) ∧ w = w' := by
  have h1 : (FloatKind.f64.format.order b 4503599627370496 == some .lt) = false := by
    show (Ieee.double.order b 4503599627370496 == some .lt) = false
    rw [order_pos b _ (by omega) (by omega)]
    have : compare b 4503599627370496 ≠ .lt := fun hc => by have := Nat.compare_eq_lt.1 hc; omega
    revert this
    cases compare b 4503599627370496 <;> simp
  have c1 := abs_pos b (by omega) w
  clear h0 h
  go_enter Tryz.func143, Tryz.ntmps143
  go_wp2_with (go_at_call 41; refine c1.mono ?_; rintro e w' ⟨rfl, rfl⟩)
  go_ret2
  exact ⟨rfl, rfl⟩

theorem i64_field (F : Nat) (h : F < 2048) : bits .and .i64 (F : Int) 2047 = (F : Int) := by
  have h2 := bits_mask .i64 63 (by decide) (fun n h0 h1 => IntWalk.i64_in n (by omega)) 11 (by decide) (F : Int) (by omega) (by omega)
  rw [show (2 : Int) ^ 11 - 1 = 2047 by decide] at h2
  rw [h2]
  omega
theorem u64_frac (b f : Nat) (h : b < 9218868437227405312) (hf : b % 4503599627370496 = f) : bits .andNot .u64 (b : Int) 9218868437227405312 = (f : Int) := by
  have := u64_andNot_nat b 9218868437227405312 (by omega) (by omega)
  rw [show (9218868437227405312 : Int) = ((9218868437227405312 : Nat) : Int) from rfl, this]
  rw [← hf]
  congr 1
  have e : (18446744073709551615 - 9218868437227405312 : Nat) = 2 ^ 63 + (2 ^ 52 - 1) := by decide
  rw [e]
  apply Nat.eq_of_testBit_eq
  intro i
  have d : (2 ^ 63 + (2 ^ 52 - 1) : Nat) = 2 ^ 63 ||| (2 ^ 52 - 1) := by decide
  rw [d, Nat.testBit_and, Nat.testBit_or, Nat.testBit_two_pow, Nat.testBit_two_pow_sub_one]
  rw [show (4503599627370496 : Nat) = 2 ^ 52 by decide, Nat.testBit_mod_two_pow]
  by_cases h63 : 63 = i
  · subst h63
    have : b.testBit 63 = false := Nat.testBit_lt_two_pow (by omega)
    rw [this]; rfl
  · simp [h63, Bool.and_comm]
theorem u64_join (f G : Nat) (hf : f < 4503599627370496) (hG : G < 4096) : bits .or .u64 (f : Int) ((G : Int) * 4503599627370496) = ((G * 4503599627370496 + f : Nat) : Int) := by
  have := u64_or_nat f (G * 4503599627370496) (by omega) (by omega)
  rw [show ((G : Int) * 4503599627370496) = ((G * 4503599627370496 : Nat) : Int) by omega, this]
  congr 1
  rw [Nat.or_comm]
  have := nat_join 52 (G * 4503599627370496) f (by omega) (by omega)
  exact this

set_option maxRecDepth 100000 in
theorem inf_one (w : World) : Calls Tryz.prog 84 #[.int .i64 1] w fun r w' => r = .returned (.float .f64 9218868437227405312) ∧ w = w' := by
  have h1 : ∀ w, (callFunc 4 #[.int .u64 9218868437227405312]).run Tryz.prog w = .ok (.value (.float .f64 9218868437227405312)) w := fun w => by kernel_rfl
  go_enter Tryz.func84, Tryz.ntmps84
  go_wp2
  go_ret
  exact ⟨rfl, rfl⟩

set_option maxRecDepth 100000 in
set_option maxHeartbeats 4000000 in
theorem ldexp_mid (b F f G y r : Nat) (e : Int) (w : World) (h0 : 4503599627370496 ≤ b) (h : b < 9218868437227405312) (hF : b / 4503599627370496 = F) (hf : b % 4503599627370496 = f) (hG : (G : Int) = e + F) (hG1 : 1 ≤ G) (hG2 : G ≤ 2046)
    (hy : G * 4503599627370496 + f = y) (hr : Ieee.double.mul 4607182418800017408 y = some r) :
    Calls Tryz.prog 115 #[.float .f64 b, .int .i64 e] w fun s w' => s = .returned (.float .f64 r) ∧ w = w' := by
  have z : (FloatKind.f64.format.order b 0 == some .eq) = false := by
    show (Ieee.double.order b 0 == some .eq) = false
    rw [order_pos b _ (by omega) (by omega)]
    have : compare b 0 ≠ .eq := fun hc => by have := Nat.compare_eq_eq.1 hc; omega
    revert this
    cases compare b 0 <;> simp
  have c1 := isinf_zero b h w
  have c2 := isnan_no b h w
  have c3 := normal_any b h0 h w
  have b1 := run_bits b
  have e1 : wrap64 ((b : Int) / 4503599627370496) = (F : Int) := by rw [IntWalk.wrap64_in _ ⟨by omega, by omega⟩]; omega
  have e2 := i64_field F (by omega)
  have e5 : wrap64 e = e := IntWalk.wrap64_in _ ⟨by omega, by omega⟩
  have FB : F ≤ 2046 := by omega
  have b2 := run_from y
  have e3 := u64_frac b f h hf
  have e4 := u64_join f G (by omega) (by omega)
  rw [hy] at e4
  have hm : ∀ w, (binOp .mul 23 (.float .f64 4607182418800017408) (.float .f64 y)).run Tryz.prog w = .ok (.float .f64 r) w := fun w => run_float_arith w .mul 23 .f64 _ _ _ hr
  have e6 : e + ((F : Int) - 1023) + 1023 = (G : Int) := by omega
  have x1 : -1022 ≤ e + ((F : Int) - 1023) ∧ e + ((F : Int) - 1023) ≤ 1023 := by omega
  have EB : -3000 ≤ e ∧ e ≤ 3000 := by omega
  clear h0 h hF hf hG hy hr
  go_enter Tryz.func115, Tryz.ntmps115
  go_wp2_with (first | (go_at_call 20; refine c1.mono ?_; rintro e w' ⟨rfl, rfl⟩) | (go_at_call 111; refine c2.mono ?_; rintro e w' ⟨rfl, rfl⟩) | (go_at_call 143; refine c3.mono ?_; rintro e w' ⟨rfl, rfl⟩) | fail)
  go_ret
  exact ⟨rfl, rfl⟩

set_option maxRecDepth 100000 in
set_option maxHeartbeats 4000000 in
theorem ldexp_low (b F f G y r : Nat) (e : Int) (w : World) (h0 : 4503599627370496 ≤ b) (h : b < 9218868437227405312) (hF : b / 4503599627370496 = F) (hf : b % 4503599627370496 = f) (hG : (G : Int) = e + F + 53) (hG1 : 1 ≤ G) (hG2 : G ≤ 53)
    (hy : G * 4503599627370496 + f = y) (hr : Ieee.double.mul 4368491638549381120 y = some r) :
    Calls Tryz.prog 115 #[.float .f64 b, .int .i64 e] w fun s w' => s = .returned (.float .f64 r) ∧ w = w' := by
  have z : (FloatKind.f64.format.order b 0 == some .eq) = false := by
    show (Ieee.double.order b 0 == some .eq) = false
    rw [order_pos b _ (by omega) (by omega)]
    have : compare b 0 ≠ .eq := fun hc => by have := Nat.compare_eq_eq.1 hc; omega
    revert this
    cases compare b 0 <;> simp
  have c1 := isinf_zero b h w
  have c2 := isnan_no b h w
  have c3 := normal_any b h0 h w
  have b1 := run_bits b
  have e1 : wrap64 ((b : Int) / 4503599627370496) = (F : Int) := by rw [IntWalk.wrap64_in _ ⟨by omega, by omega⟩]; omega
  have e2 := i64_field F (by omega)
  have e5 : wrap64 e = e := IntWalk.wrap64_in _ ⟨by omega, by omega⟩
  have FB : F ≤ 2046 := by omega
  have b2 := run_from y
  have e3 := u64_frac b f h hf
  have e4 := u64_join f G (by omega) (by omega)
  rw [hy] at e4
  have hm : ∀ w, (binOp .mul 23 (.float .f64 4368491638549381120) (.float .f64 y)).run Tryz.prog w = .ok (.float .f64 r) w := fun w => run_float_arith w .mul 23 .f64 _ _ _ hr
  have e6 : e + ((F : Int) - 1023) + 53 + 1023 = (G : Int) := by omega
  have x1 : -1075 ≤ e + ((F : Int) - 1023) ∧ e + ((F : Int) - 1023) < -1022 := by omega
  have EB : -3000 ≤ e ∧ e ≤ 3000 := by omega
  clear h0 h hF hf hG hy hr
  go_enter Tryz.func115, Tryz.ntmps115
  go_wp2_with (first | (go_at_call 20; refine c1.mono ?_; rintro e w' ⟨rfl, rfl⟩) | (go_at_call 111; refine c2.mono ?_; rintro e w' ⟨rfl, rfl⟩) | (go_at_call 143; refine c3.mono ?_; rintro e w' ⟨rfl, rfl⟩) | fail)
  go_ret
  exact ⟨rfl, rfl⟩

set_option maxRecDepth 100000 in
set_option maxHeartbeats 4000000 in
theorem ldexp_over (b F : Nat) (e : Int) (w : World) (h0 : 4503599627370496 ≤ b) (h : b < 9218868437227405312) (hF : b / 4503599627370496 = F) (hG : 2046 < e + F) (hE : e ≤ 3000) :
    Calls Tryz.prog 115 #[.float .f64 b, .int .i64 e] w fun r w' => r = .returned (.float .f64 9218868437227405312) ∧ w = w' := by
  have z : (FloatKind.f64.format.order b 0 == some .eq) = false := by
    show (Ieee.double.order b 0 == some .eq) = false
    rw [order_pos b _ (by omega) (by omega)]
    have : compare b 0 ≠ .eq := fun hc => by have := Nat.compare_eq_eq.1 hc; omega
    revert this
    cases compare b 0 <;> simp
  have c1 := isinf_zero b h w
  have c2 := isnan_no b h w
  have c3 := normal_any b h0 h w
  have b1 := run_bits b
  have e1 : wrap64 ((b : Int) / 4503599627370496) = (F : Int) := by rw [IntWalk.wrap64_in _ ⟨by omega, by omega⟩]; omega
  have e2 := i64_field F (by omega)
  have e5 : wrap64 e = e := IntWalk.wrap64_in _ ⟨by omega, by omega⟩
  have FB : F ≤ 2046 := by omega
  have z2 : (FloatKind.f64.format.order b 0 == some .lt) = false := by
    show (Ieee.double.order b 0 == some .lt) = false
    rw [order_pos b _ (by omega) (by omega)]
    have : compare b 0 ≠ .lt := fun hc => by have := Nat.compare_eq_lt.1 hc; omega
    revert this
    cases compare b 0 <;> simp
  have x1 : 1023 < e + ((F : Int) - 1023) := by omega
  have EB : -3000 ≤ e ∧ e ≤ 3000 := by omega
  have c4 := inf_one w
  clear h0 h hF hG hE
  go_enter Tryz.func115, Tryz.ntmps115
  go_wp2_with (first | (go_at_call 20; refine c1.mono ?_; rintro e w' ⟨rfl, rfl⟩) | (go_at_call 111; refine c2.mono ?_; rintro e w' ⟨rfl, rfl⟩) | (go_at_call 143; refine c3.mono ?_; rintro e w' ⟨rfl, rfl⟩) | (go_at_call 84; refine c4.mono ?_; rintro e w' ⟨rfl, rfl⟩))
  go_ret
  exact ⟨rfl, rfl⟩

/-! ### what comes out -/
theorem mul_one_word (y : Nat) (h0 : 0 < y) (h1 : y < 9218868437227405312) : Ieee.double.mul 4607182418800017408 y = some y := by
  obtain ⟨n, e, hp, rfl⟩ := parts_of y h0 h1
  unfold Ieee.Format.mul
  rw [one_read, read_word n e hp]
  show some (Ieee.double.nearest (false ^^ false) (4503599627370496 * n) (-52 + e)) = _
  have := nearest_exact false (4503599627370496 * n) (-52 + e) n e hp (.inl ⟨52, by rw [Nat.mul_comm, show (4503599627370496 : Nat) = 2 ^ 52 by decide], by omega⟩)
  rw [show (false ^^ false) = false from rfl, this]
  rfl

theorem low_val (m a : Nat) (h : a ≤ 52) : 4503599627370496 * (m * 2 ^ (52 - a)) = m * 2 ^ (104 - a) := by
  have e : (4503599627370496 : Nat) = 2 ^ 52 := by decide
  rw [e, Nat.mul_comm, Nat.mul_assoc, ← Nat.pow_add, show 52 - a + 52 = 104 - a by omega]
theorem tiny_read : Ieee.double.read 4368491638549381120 = .number false 4503599627370496 (-105) := by decide

/-- LDEXP of m up to 2^53, 53 bits or the least place. -/
theorem ldexp_any (m : Nat) (e : Int) (w : World) (h0 : 0 < m) (hm : m ≤ 9007199254740992) (he0 : -1074 ≤ e) (he1 : e ≤ 971) (hfull : 4503599627370496 ≤ m ∨ e = -1074) :
    Calls Tryz.prog 115 #[.float .f64 (FloatKind.f64.nearest (m : Int)), .int .i64 e] w fun s w' => s = .returned (.float .f64 (wordOf m e)) ∧ w = w' := by
  obtain ⟨n, g, hp, hv, hF, hn⟩ := parts_nat m h0 hm
  have hb : FloatKind.f64.nearest (m : Int) = wordOf n g := by
    show Ieee.double.nearest (decide ((m : Int) < 0)) (m : Int).natAbs 0 = _
    rw [decide_eq_false (by omega), show ((m : Int)).natAbs = m by omega]
    exact nearest_exact false m 0 n g hp hv
  rw [hb]
  have hw := word_lt hp
  have hlog : m.log2 < 54 := (Nat.log2_lt (by omega)).2 (by omega)
  have hlow : (4503599627370496 ≤ m → 52 ≤ m.log2) := fun h => (Nat.le_log2 (by omega)).2 (by omega)
  have hlow2 : (m < 4503599627370496 → m.log2 < 52) := fun h => (Nat.log2_lt (by omega)).2 (by omega)
  have hlow3 : (m < 9007199254740992 → m.log2 < 53) := fun h => (Nat.log2_lt (by omega)).2 (by omega)
  have hlow4 : (m = 9007199254740992 → m.log2 = 53) := fun h => by subst h; decide
  have hg0 := hp.ge
  have hn52 : 4503599627370496 ≤ n := by
    rcases hp.full with h | h
    · exact h
    · unfold wordOf at hF; omega
  have hf : wordOf n g % 4503599627370496 = n - 4503599627370496 := by have := hp.lt; unfold wordOf; omega
  have hge : 4503599627370496 ≤ wordOf n g := by unfold wordOf; omega
  have hnlt := hp.lt
  by_cases hov : 1023 < e + m.log2
  · have hm53 : m = 9007199254740992 := by omega
    have := hlow4 hm53
    have he971 : e = 971 := by omega
    have r := ldexp_over (wordOf n g) (m.log2 + 1023) e w hge hw hF (by omega) (by omega)
    have e1 : wordOf m e = 9218868437227405312 := by rw [hm53, he971]; decide
    rw [e1]
    exact r
  · by_cases hmid : -1022 ≤ e + m.log2
    · have hm52 : 4503599627370496 ≤ m := by
        rcases Nat.lt_or_ge m 4503599627370496 with h | h
        · have := hlow2 h; omega
        · exact h
      have hl52 := hlow hm52
      have hy : (e + m.log2 + 1023).toNat * 4503599627370496 + (n - 4503599627370496) = wordOf m e := by
        unfold wordOf
        by_cases h53 : m = 9007199254740992
        · have := hlow4 h53
          rw [if_pos h53] at hn
          omega
        · have := hlow3 (by omega)
          have h52 : m.log2 = 52 := by omega
          rw [if_neg h53, h52, Nat.sub_self, Nat.pow_zero, Nat.mul_one] at hn
          omega
      have hlt : wordOf m e < 9218868437227405312 := by rw [← hy]; omega
      exact ldexp_mid (wordOf n g) (m.log2 + 1023) _ (e + m.log2 + 1023).toNat (wordOf m e) (wordOf m e) e w hge hw hF hf (by omega) (by omega) (by omega) hy (mul_one_word _ (by unfold wordOf; omega) hlt)
    · have he : e = -1074 := by
        rcases hfull with h | h
        · have := hlow h; omega
        · exact h
      subst he
      have hm52 : m < 4503599627370496 := by
        rcases Nat.lt_or_ge m 4503599627370496 with h | h
        · exact h
        · have := hlow h; omega
      have hpm : Parts m (-1074) := ⟨h0, by omega, by omega, by omega, .inr rfl⟩
      rw [if_neg (by omega)] at hn
      have hpy : Parts n ((m.log2 : Int) - 1073) := ⟨by omega, hnlt, by omega, by omega, .inl hn52⟩
      have hy : (m.log2 + 2) * 4503599627370496 + (n - 4503599627370496) = wordOf n ((m.log2 : Int) - 1073) := by unfold wordOf; omega
      have hr : Ieee.double.mul 4368491638549381120 (wordOf n ((m.log2 : Int) - 1073)) = some (wordOf m (-1074)) := by
        unfold Ieee.Format.mul
        rw [tiny_read, read_word _ _ hpy]
        show some (Ieee.double.nearest (false ^^ false) (4503599627370496 * n) (-105 + ((m.log2 : Int) - 1073))) = _
        have := nearest_exact false (4503599627370496 * n) (-105 + ((m.log2 : Int) - 1073)) m (-1074) hpm (.inl ⟨104 - m.log2, by
          rw [hn]; exact low_val m m.log2 (by have := hlow2 hm52; omega), by have := hlow2 hm52; omega⟩)
        rw [show (false ^^ false) = false from rfl, this]
        rfl
      exact ldexp_low (wordOf n g) (m.log2 + 1023) _ (m.log2 + 2) _ _ (-1074) w hge hw hF hf (by omega) (by omega) (by have := hlow2 hm52; omega) hy hr
end Go.Proofs.YtdijkobiffhgcaaGreatDoor.Nu
