/-
  White space: the program's and the reference's White, Ends. Conditions: a unit is from 0 to 65535; unicode.Zs as it is laid.
-/
import Derived.Test.YtdijkobiffhgcaaDoorShelfIs
import Derived.Test.YtdijkobiffhgcaaDoorStr
import Derived.Deep.DeepCutAuto
import Derived.Deep.LoopGhost
namespace Go.Proofs.YtdijkobiffhgcaaDoor.Un
open Go.RowKit Go.Lib

/-- does a line end with it? is it white space, too? -/
def endsU (u : Int) : Bool := u == 10 || u == 13 || u == 8232 || u == 8233
def whiteU (u : Int) : Bool := endsU u || (u == 9 || u == 11 || u == 12 || u == 32 || u == 160 || u == 65279) || (decide (127 < u) && isGo zsT u)

theorem zs_ok : RTabOk zsT := by
  refine ⟨?_, ?_, by decide, by decide, by decide, by decide⟩
  · intro i hi
    have : i < 5 := hi
    match i, this with
    | 0, _ => decide
    | 1, _ => decide
    | 2, _ => decide
    | 3, _ => decide
    | 4, _ => decide
  · intro i hi
    exact absurd hi (by show ¬ i < 0; omega)

theorem zs_below {w w' : World} (h : RVar 0 zsT w) (hb : Below w.heap.size w w') : RVar 0 zsT w' := by
  obtain ⟨Tb, oT, h0, a16, a32, R16, o16, c16, R32, o32, c32, k0, k1, k2, e16, e32, t16, t32, hc⟩ := h
  exact ⟨Tb, oT, cell_later hb h0, a16, a32, R16, o16, c16, R32, o32, c32, cell_later hb k0, cell_later hb k1, cell_later hb k2, e16, e32,
    fun i hi => ⟨cell_later hb (t16 i hi).1, cell_later hb (t16 i hi).2.1, cell_later hb (t16 i hi).2.2⟩,
    fun i hi => ⟨cell_later hb (t32 i hi).1, cell_later hb (t32 i hi).2.1, cell_later hb (t32 i hi).2.2⟩, hc⟩

set_option maxHeartbeats 400000 in
theorem ends_any (u : Int) (w : World) :
    Calls Tryd.prog 45 #[.int .u16 u] w fun e w' => e = .returned (.bool (endsU u)) ∧ w = w' := by
  go_enter Tryd.func45, Tryd.ntmps45
  go_wp2
  all_goals go_ret
  all_goals exact ⟨ret_bool (by simp_all [endsU]), rfl⟩

set_option maxHeartbeats 400000 in
theorem rends_any (u : Int) (w : World) :
    Calls Tryd.prog 36 #[.int .u16 u] w fun e w' => e = .returned (.bool (endsU u)) ∧ w = w' := by
  go_enter Tryd.func36, Tryd.ntmps36
  go_wp2
  all_goals go_ret
  all_goals exact ⟨ret_bool (by simp_all [endsU]), rfl⟩

set_option maxHeartbeats 400000 in
theorem white_any (u : Int) (w : World) (h0 : 0 ≤ u) (h1 : u ≤ 65535) (hZ : RVar 0 zsT w) :
    Calls Tryd.prog 39 #[.int .u16 u] w fun e w' => e = .returned (.bool (whiteU u)) ∧ Below w.heap.size w w' := by
  obtain ⟨Tb, oT, c0, hA⟩ := hZ
  have cI := Tryd.unicode_Is_any Tb oT zsT u w (by omega) (by omega) hA zs_ok
  go_enter Tryd.func39, Tryd.ntmps39
  go_wp2_with (first | (go_at_call 45; refine (ends_any u _).mono ?_; rintro e w' ⟨rfl, rfl⟩) | (go_at_call 37; refine cI.mono ?_; rintro e w' ⟨rfl, hb⟩))
  all_goals go_ret
  all_goals
    refine ⟨ret_bool ?_, by first | exact hb | exact Below.refl _ _⟩
    unfold whiteU
    simp [*]
    try (first | omega | (left; simp_all; done))

set_option maxHeartbeats 400000 in
theorem rwhite_any (u : Int) (w : World) (h0 : 0 ≤ u) (h1 : u ≤ 65535) (hZ : RVar 0 zsT w) :
    Calls Tryd.prog 28 #[.int .u16 u] w fun e w' => e = .returned (.bool (whiteU u)) ∧ Below w.heap.size w w' := by
  obtain ⟨Tb, oT, c0, hA⟩ := hZ
  have cI := Tryd.unicode_Is_any Tb oT zsT u w (by omega) (by omega) hA zs_ok
  go_enter Tryd.func28, Tryd.ntmps28
  go_wp2_with (first | (go_at_call 36; refine (rends_any u _).mono ?_; rintro e w' ⟨rfl, rfl⟩) | (go_at_call 37; refine cI.mono ?_; rintro e w' ⟨rfl, hb⟩))
  all_goals go_ret
  all_goals
    refine ⟨ret_bool ?_, by first | exact hb | exact Below.refl _ _⟩
    unfold whiteU
    simp [*]
    try (first | omega | (left; simp_all; done))

end Go.Proofs.YtdijkobiffhgcaaDoor.Un
