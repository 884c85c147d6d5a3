/-
  strconv's uscale. Conditions: as each says.
-/
import Derived.Test.YtdijkobiffhgcaaGreatDoorSc
import Derived.Test.YtdijkobiffhgcaaGreatDoorShelf
import Derived.BigQuiet
import Derived.Deep.QuietTactic
namespace Go.Proofs.YtdijkobiffhgcaaGreatDoor.Nu
open Go.RowKit Go.Lib

theorem i64_mask6 (s : Nat) (h : s < 64) : bits .and .i64 (s : Int) 63 = (s : Int) := by
  have h2 := bits_mask .i64 63 (by decide) (fun n h0 h1 => IntWalk.i64_in n (by omega)) 6 (by decide) (s : Int) (by omega) (by omega)
  rw [show (2 : Int) ^ 6 - 1 = 63 by decide] at h2
  rw [h2]
  omega
theorem bool2_t (w : World) : Calls Tryz.prog 144 #[.bool true] w fun r w' => r = .returned (.int .u64 1) ∧ w' = w := (bool2u true w).mono fun _ _ ⟨h1, h2⟩ => ⟨h1, h2.symm⟩
theorem bool2_f (w : World) : Calls Tryz.prog 144 #[.bool false] w fun r w' => r = .returned (.int .u64 0) ∧ w' = w := (bool2u false w).mono fun _ _ ⟨h1, h2⟩ => ⟨h1, h2.symm⟩
theorem or1_u64 (q : Nat) (h : q < 18446744073709551616) : bits .or .u64 (q : Int) 1 = ((q ||| 1 : Nat) : Int) := u64_or_nat q 1 h (by omega)
theorem or0_u64 (q : Nat) (h : q < 18446744073709551616) : bits .or .u64 (q : Int) 0 = ((q ||| 0 : Nat) : Int) := u64_or_nat q 0 h (by omega)

set_option maxRecDepth 100000 in
set_option maxHeartbeats 4000000 in
theorem uscale_odd (x hi0 s hi mid q r : Nat) (B : Nat) (w : World) (hs : s < 64) (hx : x < 18446744073709551616) (h0 : hi0 < 18446744073709551616) (hhi : x * hi0 / 18446744073709551616 = hi) (hmid : x * hi0 % 18446744073709551616 = mid)
    (hq : hi / 2 ^ s = q) (hr : q * 2 ^ s = r) (hne : r ≠ hi)
    (c0 : w.cell? ⟨B, 0, none⟩ = some (.int .u64 (hi0 : Int))) (c2 : w.cell? ⟨B, 2, none⟩ = some (.int .i64 (s : Int))) :
    Calls Tryz.prog 122 #[.int .u64 (x : Int), .pointer (some ⟨B, 0, none⟩)] w fun r w' => r = .returned (.int .u64 ((q ||| 1 : Nat) : Int)) ∧ ∃ q, w' = w.drewN q := by
  have cM := fun w => Tryz.bits_Mul64 x hi0 hx h0 w
  have hhl : hi < 18446744073709551616 := by
    rw [← hhi, Nat.div_lt_iff_lt_mul (by omega)]
    have a := Nat.mul_le_mul_left x (Nat.le_of_lt h0)
    have b := Nat.mul_lt_mul_of_pos_right hx (show 0 < 18446744073709551616 by omega)
    omega
  have hrl : r ≤ hi := by rw [← hr, ← hq]; exact Nat.div_mul_le_self _ _
  have hql : q ≤ hi := by rw [← hq]; exact Nat.div_le_self _ _
  rw [hhi, hmid] at cM
  have b1 := i64_mask6 s hs
  have s0 : (0 : Int) ≤ (s : Int) ∧ (s : Int) < 64 := by omega
  have e1 : (hi : Int) / 2 ^ s = (q : Int) := by rw [← hq]; exact (Int.natCast_ediv hi (2 ^ s)).symm ▸ (by rw [Int.natCast_pow]; rfl)
  have e2 : IntKind.u64.wrap ((q : Int) * 2 ^ s) = (r : Int) := u64_in _ _ (by rw [← hr, Int.natCast_mul, Int.natCast_pow]; rfl) (by omega)
  have e3 : ((r : Int) != (hi : Int)) = true := by rw [bne_iff_ne]; omega
  have e4 := or1_u64 q (by omega)
  obtain ⟨z, hz⟩ : ∃ z, q ||| 1 = z := ⟨_, rfl⟩
  rw [hz] at e4 ⊢
  clear hx h0 hhi hmid hs hq hr hne hhl hrl hql hz
  go_enter Tryz.func122, Tryz.ntmps122
  go_wp2_with fail
  refine (cM w).mono ?_
  rintro r w1 ⟨rfl, hw⟩
  rw [hw]
  clear hw w1 cM
  go_wp2_with fail
  go_ret
  exact ⟨rfl, 0, rfl⟩

set_option maxRecDepth 100000 in
set_option maxHeartbeats 8000000 in
theorem uscale_even (x hi0 lo0 s hi mid q mid2 low2 hi' q' d : Nat) (B : Nat) (w : World) (hs : s < 64) (hx : x < 18446744073709551616) (h0 : hi0 < 18446744073709551616) (h1 : lo0 < 18446744073709551616)
    (hhi : x * hi0 / 18446744073709551616 = hi) (hmid : x * hi0 % 18446744073709551616 = mid) (hm2 : x * lo0 / 18446744073709551616 = mid2) (hl2 : x * lo0 % 18446744073709551616 = low2)
    (hq : hi / 2 ^ s = q) (hr : q * 2 ^ s = hi) (hpos : mid < mid2 → 1 ≤ hi) (hhi' : (if mid < mid2 then hi - 1 else hi) = hi') (hq' : hi' / 2 ^ s = q') (hd : (mid + 18446744073709551616 - mid2) % 18446744073709551616 = d)
    (c0 : w.cell? ⟨B, 0, none⟩ = some (.int .u64 (hi0 : Int))) (c1 : w.cell? ⟨B, 1, none⟩ = some (.int .u64 (lo0 : Int))) (c2 : w.cell? ⟨B, 2, none⟩ = some (.int .i64 (s : Int))) :
    Calls Tryz.prog 122 #[.int .u64 (x : Int), .pointer (some ⟨B, 0, none⟩)] w fun r w' => r = .returned (.int .u64 ((q' ||| (if d > 1 then 1 else 0) : Nat) : Int)) ∧ ∃ q, w' = w.drewN q := by
  have cM := fun w => Tryz.bits_Mul64 x hi0 hx h0 w
  have cM2 := fun w => Tryz.bits_Mul64 x lo0 hx h1 w
  have big : ∀ a b : Nat, a < 18446744073709551616 → b < 18446744073709551616 → a * b / 18446744073709551616 < 18446744073709551616 := by
    intro a b ha hb
    rw [Nat.div_lt_iff_lt_mul (by omega)]
    have u := Nat.mul_le_mul_left a (Nat.le_of_lt hb)
    have v := Nat.mul_lt_mul_of_pos_right ha (show 0 < 18446744073709551616 by omega)
    omega
  have hhl : hi < 18446744073709551616 := by rw [← hhi]; exact big x hi0 hx h0
  have hml : mid < 18446744073709551616 := by rw [← hmid]; exact Nat.mod_lt _ (by omega)
  have hm2l : mid2 < 18446744073709551616 := by rw [← hm2]; exact big x lo0 hx h1
  have hil : hi' ≤ hi := by rw [← hhi']; split <;> omega
  have hql : q' ≤ hi' := by rw [← hq']; exact Nat.div_le_self _ _
  rw [hhi, hmid] at cM
  rw [hm2, hl2] at cM2
  have b1 := i64_mask6 s hs
  have s0 : (0 : Int) ≤ (s : Int) ∧ (s : Int) < 64 := by omega
  have e1 : (hi : Int) / 2 ^ s = (q : Int) := by rw [← hq]; exact (Int.natCast_ediv hi (2 ^ s)).symm ▸ (by rw [Int.natCast_pow]; rfl)
  have e2 : IntKind.u64.wrap ((q : Int) * 2 ^ s) = (hi : Int) := u64_in _ _ (by rw [← hr, Int.natCast_mul, Int.natCast_pow]; rfl) (by omega)
  have e3 : ((hi : Int) != (hi : Int)) = false := by simp
  have e5 : (hi' : Int) / 2 ^ s = (q' : Int) := by rw [← hq']; exact (Int.natCast_ediv hi' (2 ^ s)).symm ▸ (by rw [Int.natCast_pow]; rfl)
  have ed : IntKind.u64.wrap ((mid : Int) - (mid2 : Int)) = (d : Int) := by
    have e : ∀ a : Int, IntKind.u64.wrap a = a % 18446744073709551616 := fun a => rfl
    rw [e]; omega
  have o1 := or1_u64 q' (by omega)
  have o0 := or0_u64 q' (by omega)
  have HD := hideIt hd
  have HH := hideIt hhi'
  by_cases hlt : mid < mid2
  · have g1 : decide (mid < mid2) = true := decide_eq_true hlt
    have g2 : IntKind.u64.wrap ((hi : Int) - 1) = (hi' : Int) := by
      rw [if_pos hlt] at hhi'
      exact u64_in _ _ (by have := hpos hlt; omega) (by omega)
    by_cases hdd : d > 1
    · have g3 : decide ((1 : Int) < (d : Int)) = true := decide_eq_true (by omega)
      have g3' : decide (1 < d) = true := decide_eq_true (by omega)
      rw [if_pos hdd]
      obtain ⟨z, hz⟩ : ∃ z, q' ||| 1 = z := ⟨_, rfl⟩
      rw [hz] at o1 ⊢
      clear big hx h0 h1 hhi hmid hm2 hl2 hs hq hr hpos hhi' hq' hd hhl hml hm2l hil hql hz hlt hdd o0
      go_enter Tryz.func122, Tryz.ntmps122
      go_wp2_with fail
      refine (cM w).mono ?_
      rintro r w1 ⟨rfl, hw⟩
      rw [hw]
      clear hw w1 cM
      go_wp2_with fail
      refine (cM2 w).mono ?_
      rintro r w1 ⟨rfl, hw⟩
      rw [hw]
      clear hw w1 cM2
      go_wp2_with fail
      refine (bool2_t w).mono ?_
      rintro r w1 ⟨rfl, hw⟩
      rw [hw]
      clear hw w1
      go_wp2_with fail
      go_quiet ((go_at_call 144; exact Calls.quiet_of_same (bool2_t _)))
      go_wp2_with fail
      go_ret
      exact ⟨rfl, _, rfl⟩
    · have g3 : decide ((1 : Int) < (d : Int)) = false := decide_eq_false (by omega)
      have g3' : decide (1 < d) = false := decide_eq_false (by omega)
      rw [if_neg hdd]
      obtain ⟨z, hz⟩ : ∃ z, q' ||| 0 = z := ⟨_, rfl⟩
      rw [hz] at o0 ⊢
      clear big hx h0 h1 hhi hmid hm2 hl2 hs hq hr hpos hhi' hq' hd hhl hml hm2l hil hql hz hlt hdd o1
      go_enter Tryz.func122, Tryz.ntmps122
      go_wp2_with fail
      refine (cM w).mono ?_
      rintro r w1 ⟨rfl, hw⟩
      rw [hw]
      clear hw w1 cM
      go_wp2_with fail
      refine (cM2 w).mono ?_
      rintro r w1 ⟨rfl, hw⟩
      rw [hw]
      clear hw w1 cM2
      go_wp2_with fail
      refine (bool2_t w).mono ?_
      rintro r w1 ⟨rfl, hw⟩
      rw [hw]
      clear hw w1
      go_wp2_with fail
      go_quiet ((go_at_call 144; exact Calls.quiet_of_same (bool2_f _)))
      go_wp2_with fail
      go_ret
      exact ⟨rfl, _, rfl⟩
  · have g1 : decide (mid < mid2) = false := decide_eq_false hlt
    have hhe : hi = hi' := by rw [if_neg hlt] at hhi'; exact hhi'
    subst hhe
    have hqq : q' = q := hq'.symm.trans hq
    subst hqq
    clear e5
    have g2 : IntKind.u64.wrap ((hi : Int) - 0) = (hi : Int) := u64_in _ _ (by omega) (by omega)
    have g4 : IntKind.u64.wrap (hi : Int) = (hi : Int) := u64_in _ _ (by omega) (by omega)
    by_cases hdd : d > 1
    · have g3 : decide ((1 : Int) < (d : Int)) = true := decide_eq_true (by omega)
      have g3' : decide (1 < d) = true := decide_eq_true (by omega)
      rw [if_pos hdd]
      obtain ⟨z, hz⟩ : ∃ z, q' ||| 1 = z := ⟨_, rfl⟩
      rw [hz] at o1 ⊢
      clear big hx h0 h1 hhi hmid hm2 hl2 hs hq hr hpos hhi' hq' hd hhl hml hm2l hil hql hz hlt hdd o0
      go_enter Tryz.func122, Tryz.ntmps122
      go_wp2_with fail
      refine (cM w).mono ?_
      rintro r w1 ⟨rfl, hw⟩
      rw [hw]
      clear hw w1 cM
      go_wp2_with fail
      refine (cM2 w).mono ?_
      rintro r w1 ⟨rfl, hw⟩
      rw [hw]
      clear hw w1 cM2
      go_wp2_with fail
      refine (bool2_f w).mono ?_
      rintro r w1 ⟨rfl, hw⟩
      rw [hw]
      clear hw w1
      go_wp2_with fail
      go_quiet ((go_at_call 144; exact Calls.quiet_of_same (bool2_t _)))
      go_wp2_with fail
      go_ret
      exact ⟨rfl, _, rfl⟩
    · have g3 : decide ((1 : Int) < (d : Int)) = false := decide_eq_false (by omega)
      have g3' : decide (1 < d) = false := decide_eq_false (by omega)
      rw [if_neg hdd]
      obtain ⟨z, hz⟩ : ∃ z, q' ||| 0 = z := ⟨_, rfl⟩
      rw [hz] at o0 ⊢
      clear big hx h0 h1 hhi hmid hm2 hl2 hs hq hr hpos hhi' hq' hd hhl hml hm2l hil hql hz hlt hdd o1
      go_enter Tryz.func122, Tryz.ntmps122
      go_wp2_with fail
      refine (cM w).mono ?_
      rintro r w1 ⟨rfl, hw⟩
      rw [hw]
      clear hw w1 cM
      go_wp2_with fail
      refine (cM2 w).mono ?_
      rintro r w1 ⟨rfl, hw⟩
      rw [hw]
      clear hw w1 cM2
      go_wp2_with fail
      refine (bool2_f w).mono ?_
      rintro r w1 ⟨rfl, hw⟩
      rw [hw]
      clear hw w1
      go_wp2_with fail
      go_quiet ((go_at_call 144; exact Calls.quiet_of_same (bool2_f _)))
      go_wp2_with fail
      go_ret
      exact ⟨rfl, _, rfl⟩

theorem uscale_any (x hi0 lo0 s : Nat) (B : Nat) (w : World) (hs : s < 64) (hx : x < 18446744073709551616) (h00 : 0 < hi0) (h0 : hi0 < 18446744073709551616) (h1 : lo0 < 18446744073709551616)
    (c0 : w.cell? ⟨B, 0, none⟩ = some (.int .u64 (hi0 : Int))) (c1 : w.cell? ⟨B, 1, none⟩ = some (.int .u64 (lo0 : Int))) (c2 : w.cell? ⟨B, 2, none⟩ = some (.int .i64 (s : Int))) :
    Calls Tryz.prog 122 #[.int .u64 (x : Int), .pointer (some ⟨B, 0, none⟩)] w fun r w' => r = .returned (.int .u64 ((uscaleN x hi0 lo0 s : Nat) : Int)) ∧ ∃ q, w' = w.drewN q := by
  unfold uscaleN
  by_cases hne : x * hi0 / 18446744073709551616 / 2 ^ s * 2 ^ s ≠ x * hi0 / 18446744073709551616
  · rw [if_pos hne]
    exact uscale_odd x hi0 s _ _ _ _ B w hs hx h0 rfl rfl rfl rfl hne c0 c2
  · rw [if_neg hne]
    refine uscale_even x hi0 lo0 s _ _ _ _ _ _ _ _ B w hs hx h0 h1 rfl rfl rfl rfl rfl (Decidable.not_not.1 hne) (fun hlt => ?_) rfl rfl rfl c0 c1 c2
    rcases Nat.eq_zero_or_pos (x * hi0 / 18446744073709551616) with hz | hz
    · exfalso
      have a1 : x * hi0 < 18446744073709551616 := by
        have := Nat.div_add_mod (x * hi0) 18446744073709551616
        rw [hz, Nat.mul_zero, Nat.zero_add] at this
        have := Nat.mod_lt (x * hi0) (show 0 < 18446744073709551616 by omega)
        omega
      rw [Nat.mod_eq_of_lt a1] at hlt
      have a2 : x ≤ x * hi0 := Nat.le_mul_of_pos_right _ h00
      have a3 : x * lo0 / 18446744073709551616 < x + 1 := by
        rw [Nat.div_lt_iff_lt_mul (by omega)]
        have := Nat.mul_le_mul_left x (Nat.le_of_lt h1)
        rw [Nat.add_mul]
        omega
      omega
    · exact hz
end Go.Proofs.YtdijkobiffhgcaaGreatDoor.Nu
