/-
  strconv's small functions of scaling: log10Pow2, log2Pow10, skewed, bool2, and those of the unrounded. Conditions: as each says.
-/
import Derived.Test.YtdijkobiffhgcaaGreatDoorPre
import Derived.Laws.BitsAllLaws
import Derived.Test.YtdijkobiffhgcaaGreatDoorQuoW
import Derived.Test.YtdijkobiffhgcaaGreatDoorPlain
namespace Go.Proofs.YtdijkobiffhgcaaGreatDoor.Nu
open Go.RowKit Go.Lib

set_option maxRecDepth 100000 in
theorem log10Pow2_any (x : Int) (h : -3000 ≤ x ∧ x ≤ 3000) (w : World) : Calls Tryz.prog 95 #[.int .i64 x] w fun r w' => r = .returned (.int .i64 (lp2 x)) ∧ w = w' := by
  have b1 : IntKind.i64.wrap (x * 78913) = x * 78913 := IntWalk.i64_in _ (by omega)
  have b2 : IntKind.i64.wrap (x * 78913 / 262144) = x * 78913 / 262144 := IntWalk.i64_in _ (by omega)
  have hx : lp2 x = x * 78913 / 262144 := rfl
  rw [hx]
  clear hx
  go_enter Tryz.func95, Tryz.ntmps95
  go_wp2
  go_ret
  exact ⟨rfl, rfl⟩

set_option maxRecDepth 100000 in
theorem log2Pow10_any (x : Int) (h : -3000 ≤ x ∧ x ≤ 3000) (w : World) : Calls Tryz.prog 121 #[.int .i64 x] w fun r w' => r = .returned (.int .i64 (lp10 x)) ∧ w = w' := by
  have b1 : IntKind.i64.wrap (x * 108853) = x * 108853 := IntWalk.i64_in _ (by omega)
  have b2 : IntKind.i64.wrap (x * 108853 / 32768) = x * 108853 / 32768 := IntWalk.i64_in _ (by omega)
  have hx : lp10 x = x * 108853 / 32768 := rfl
  rw [hx]
  clear hx
  go_enter Tryz.func121, Tryz.ntmps121
  go_wp2
  go_ret
  exact ⟨rfl, rfl⟩

set_option maxRecDepth 100000 in
theorem skewed_any (x : Int) (h : -3000 ≤ x ∧ x ≤ 3000) (w : World) : Calls Tryz.prog 119 #[.int .i64 x] w fun r w' => r = .returned (.int .i64 (skew x)) ∧ w = w' := by
  have b1 : IntKind.i64.wrap (x * 631305) = x * 631305 := IntWalk.i64_in _ (by omega)
  have b2 : IntKind.i64.wrap (x * 631305 - 261663) = x * 631305 - 261663 := IntWalk.i64_in _ (by omega)
  have b3 : IntKind.i64.wrap ((x * 631305 - 261663) / 2097152) = (x * 631305 - 261663) / 2097152 := IntWalk.i64_in _ (by omega)
  have hx : skew x = (x * 631305 - 261663) / 2097152 := rfl
  rw [hx]
  clear hx
  go_enter Tryz.func119, Tryz.ntmps119
  go_wp2
  go_ret
  exact ⟨rfl, rfl⟩

set_option maxRecDepth 100000 in
theorem bool2u (b : Bool) (w : World) : Calls Tryz.prog 144 #[.bool b] w fun r w' => r = .returned (.int .u64 (b.toNat : Int)) ∧ w = w' := by
  cases b
  all_goals
    go_enter Tryz.func144, Tryz.ntmps144
    go_wp2
    go_ret
    exact ⟨rfl, rfl⟩

set_option maxRecDepth 100000 in
theorem floor_u (u q : Nat) (h : u < 4611686018427387904) (hq : u / 4 = q) (w : World) : Calls Tryz.prog 125 #[.int .u64 (u : Int)] w fun r w' => r = .returned (.int .u64 (q : Int)) ∧ w = w' := by
  obtain ⟨x, hx⟩ : ∃ x : Int, (u : Int) = x := ⟨_, rfl⟩
  obtain ⟨y, hy⟩ : ∃ y : Int, (q : Int) = y := ⟨_, rfl⟩
  have b3 : x / 4 = y := by omega
  have b4 : 0 ≤ x ∧ x < 4611686018427387904 := by omega
  rw [hx, hy]
  clear h hq hx hy
  go_enter Tryz.func125, Tryz.ntmps125
  go_wp2
  go_ret
  exact ⟨rfl, rfl⟩

set_option maxRecDepth 100000 in
theorem ceil_u (u q : Nat) (h : u < 4611686018427387904) (hq : (u + 3) / 4 = q) (w : World) : Calls Tryz.prog 124 #[.int .u64 (u : Int)] w fun r w' => r = .returned (.int .u64 (q : Int)) ∧ w = w' := by
  obtain ⟨x, hx⟩ : ∃ x : Int, (u : Int) = x := ⟨_, rfl⟩
  obtain ⟨y, hy⟩ : ∃ y : Int, (q : Int) = y := ⟨_, rfl⟩
  have b3 : (x + 3) / 4 = y := by omega
  have b4 : 0 ≤ x ∧ x < 4611686018427387904 := by omega
  have b5 : IntKind.u64.wrap (x + 3) = x + 3 := Int.emod_eq_of_lt (by omega) (by show x + 3 < 18446744073709551616; omega)
  rw [hx, hy]
  clear h hq hx hy
  go_enter Tryz.func124, Tryz.ntmps124
  go_wp2
  go_ret
  exact ⟨rfl, rfl⟩

set_option maxRecDepth 100000 in
theorem round_u (u q : Nat) (h : u < 4611686018427387904) (hq : roundU u = q) (w : World) : Calls Tryz.prog 126 #[.int .u64 (u : Int)] w fun r w' => r = .returned (.int .u64 (q : Int)) ∧ w = w' := by
  obtain ⟨a, ha⟩ : ∃ a, u / 4 = a := ⟨_, rfl⟩
  obtain ⟨b, hb⟩ : ∃ b, a % 2 = b := ⟨_, rfl⟩
  have hr : (u + 1 + b) / 4 = q := by rw [← hq, ← hb, ← ha]; rfl
  have b1 : bits .and .u64 (a : Int) 1 = (b : Int) := by
    have := u64_and_nat a 1 (by omega) (by omega)
    rw [nat_mask1, hb] at this
    exact this
  obtain ⟨x, hx⟩ : ∃ x : Int, (u : Int) = x := ⟨_, rfl⟩
  obtain ⟨y, hy⟩ : ∃ y : Int, (q : Int) = y := ⟨_, rfl⟩
  obtain ⟨c, hc⟩ : ∃ c : Int, (b : Int) = c := ⟨_, rfl⟩
  obtain ⟨d, hd⟩ : ∃ d : Int, (a : Int) = d := ⟨_, rfl⟩
  have b2 : x / 4 = d := by omega
  have b3 : (x + 1 + c) / 4 = y := by omega
  have b4 : 0 ≤ x ∧ x < 4611686018427387904 := by omega
  have b6 : 0 ≤ c ∧ c ≤ 1 := by omega
  have b5 : IntKind.u64.wrap (x + 1) = x + 1 := Int.emod_eq_of_lt (by omega) (by show x + 1 < 18446744073709551616; omega)
  have b7 : IntKind.u64.wrap (x + 1 + c) = x + 1 + c := Int.emod_eq_of_lt (by omega) (by show x + 1 + c < 18446744073709551616; omega)
  rw [hd, hc] at b1
  rw [hx, hy]
  clear h hq hx hy hr ha hb hc hd
  go_enter Tryz.func126, Tryz.ntmps126
  go_wp2
  go_ret
  exact ⟨rfl, rfl⟩

set_option maxRecDepth 100000 in
theorem nudge_u (u v : Nat) (z : Int) (h : u < 4611686018427387904) (hz : -1 ≤ z ∧ z ≤ 1) (hv : (u : Int) + z = v) (w : World) : Calls Tryz.prog 123 #[.int .u64 (u : Int), .int .i64 z] w fun r w' => r = .returned (.int .u64 (v : Int)) ∧ w = w' := by
  obtain ⟨x, hx⟩ : ∃ x : Int, (u : Int) = x := ⟨_, rfl⟩
  obtain ⟨y, hy⟩ : ∃ y : Int, (v : Int) = y := ⟨_, rfl⟩
  have b4 : 0 ≤ x ∧ x < 4611686018427387904 := by omega
  have b3 : IntKind.u64.wrap (x + IntKind.u64.wrap z) = y := by
    have e : ∀ a : Int, IntKind.u64.wrap a = a % 18446744073709551616 := fun a => rfl
    rw [e, e]
    omega
  rw [hx, hy]
  clear h hx hy hv
  go_enter Tryz.func123, Tryz.ntmps123
  go_wp2
  go_ret
  exact ⟨by rw [← b3]; rfl, rfl⟩
end Go.Proofs.YtdijkobiffhgcaaGreatDoor.Nu
