/-
  The small functions: high, low, first, second of a unit. Conditions: a unit is from 0 to 65535.
-/
import Derived.Test.YtdijkobiffhgcaaDoorShelf
import Derived.Test.YtdijkobiffhgcaaDoorPlain
import Derived.Test.YtdijkobiffhgcaaDoorBits
import Derived.Test.YtdijkobiffhgcaaDoorChecked
import Derived.WalkKit
import Derived.WalkLawsBesides
import Derived.WalkSpells
import Derived.Outline
namespace Go.Proofs.YtdijkobiffhgcaaDoor.Un
open Go.RowKit Go.Lib

theorem ret_bool {a b : Bool} (h : a = b) : Ending.returned (.bool a) = .returned (.bool b) := by rw [h]

theorem high_eq (u : Int) (h0 : 0 ≤ u) (h1 : u ≤ 65535) : (bits BinOp.and IntKind.u16 u 64512 == 55296) = hiU u := by
  rw [u16_and_high u h0 h1, Bool.eq_iff_iff, beq_iff_eq, hiU_iff]; omega
theorem low_eq (u : Int) (h0 : 0 ≤ u) (h1 : u ≤ 65535) : (bits BinOp.and IntKind.u16 u 64512 == 56320) = loU u := by
  rw [u16_and_high u h0 h1, Bool.eq_iff_iff, beq_iff_eq, loU_iff]; omega

theorem high_any (u : Int) (h0 : 0 ≤ u) (h1 : u ≤ 65535) (w : World) :
    Calls Tryd.prog 15 #[.int .u16 u] w fun e w' => e = .returned (.bool (hiU u)) ∧ w = w' := by
  go_enter Tryd.func15, Tryd.ntmps15
  go_wp2
  go_ret
  exact ⟨ret_bool (high_eq u h0 h1), rfl⟩

theorem low_any (u : Int) (h0 : 0 ≤ u) (h1 : u ≤ 65535) (w : World) :
    Calls Tryd.prog 16 #[.int .u16 u] w fun e w' => e = .returned (.bool (loU u)) ∧ w = w' := by
  go_enter Tryd.func16, Tryd.ntmps16
  go_wp2
  go_ret
  exact ⟨ret_bool (low_eq u h0 h1), rfl⟩

theorem first_any (u : Int) (w : World) :
    Calls Tryd.prog 20 #[.int .u16 u] w fun e w' => e = .returned (.bool (hiU u)) ∧ w = w' := by
  go_enter Tryd.func20, Tryd.ntmps20
  go_wp2
  · go_ret
    have h : 55296 ≤ u := by assumption
    exact ⟨ret_bool (by simp [hiU, h]), rfl⟩
  · go_ret
    have h : u < 55296 := by assumption
    exact ⟨ret_bool (by rw [eq_comm]; simp [hiU]; omega), rfl⟩

theorem second_any (u : Int) (w : World) :
    Calls Tryd.prog 21 #[.int .u16 u] w fun e w' => e = .returned (.bool (loU u)) ∧ w = w' := by
  go_enter Tryd.func21, Tryd.ntmps21
  go_wp2
  · go_ret
    have h : 56320 ≤ u := by assumption
    exact ⟨ret_bool (by simp [loU, h]), rfl⟩
  · go_ret
    have h : u < 56320 := by assumption
    exact ⟨ret_bool (by rw [eq_comm]; simp [loU]; omega), rfl⟩

end Go.Proofs.YtdijkobiffhgcaaDoor.Un
