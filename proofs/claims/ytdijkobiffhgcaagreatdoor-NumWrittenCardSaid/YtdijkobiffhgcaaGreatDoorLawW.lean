/-
  The law's walk: at every number the two texts are one. Conditions: the tables lie as told.
-/
import Derived.Test.YtdijkobiffhgcaaGreatDoorTexW
namespace Go.Proofs.YtdijkobiffhgcaaGreatDoor.Nu
open Go.RowKit Go.Lib

set_option maxRecDepth 100000 in
set_option maxHeartbeats 4000000 in
theorem law_join (b : Nat) (S : ByteArray) (w : World) (hw : Laid w)
    (c1 : ∀ w, Laid w → Calls Tryz.prog 5 #[.float .f64 b] w fun r w' => r = .returned (.string S) ∧ Below w.heap.size w w')
    (c2 : ∀ w, Calls Tryz.prog 6 #[.float .f64 b] w fun r w' => r = .returned (.string S) ∧ Below w.heap.size w w') :
    Calls Tryz.prog 3 #[.int .u64 (b : Int)] w fun r w' => r = .returned (.bool true) ∧ Below w.heap.size w w' := by
  have h3 := run_from b
  have d1 := c1 w hw
  clear c1 hw
  go_enter Tryz.func3, Tryz.ntmps3
  go_wp2_with fail
  refine d1.mono ?_
  rintro r w1 ⟨rfl, b1⟩
  clear d1
  go_wp2_with fail
  refine (c2 w1).mono ?_
  rintro r w2 ⟨rfl, b2⟩
  have B2 := b1.trans (b2.mono b1.size)
  clear c2 b1 b2
  go_wp2_with fail
  go_ret
  refine ⟨?_, B2⟩
  rfl

theorem law_any (b : Nat) (hb : b < 18446744073709551616) (w : World) (hw : Laid w) :
    Calls Tryz.prog 3 #[.int .u64 (b : Int)] w fun r w' => r = .returned (.bool true) ∧ Below w.heap.size w w' := by
  rcases kinds b hb with h | rfl | rfl | rfl | rfl | ⟨n, e, h, rfl⟩ | ⟨n, e, h, rfl⟩
  · exact law_join b _ w hw (fun w _ => text_odd (tests_nan b hb h) (fun h => by cases h) rfl w) (fun w => numtext_odd (tests_nan b hb h) rfl w)
  · exact law_join _ _ w hw (fun w _ => text_odd tests_zero (fun _ => ⟨rfl, rfl⟩) rfl w) (fun w => numtext_odd tests_zero rfl w)
  · exact law_join _ _ w hw (fun w _ => text_odd tests_nzero (fun _ => ⟨rfl, rfl⟩) rfl w) (fun w => numtext_odd tests_nzero rfl w)
  · exact law_join _ _ w hw (fun w _ => text_odd tests_pinf (fun h => by cases h) rfl w) (fun w => numtext_odd tests_pinf rfl w)
  · exact law_join _ _ w hw (fun w _ => text_odd tests_ninf (fun h => by cases h) rfl w) (fun w => numtext_odd tests_ninf rfl w)
  · obtain ⟨s, pt, hsh⟩ := shown n e h
    exact law_join _ _ w hw (fun w hl => text_pos n e h s pt hsh w hl) (fun w => numtext_pos n e h s pt hsh w)
  · obtain ⟨s, pt, hsh⟩ := shown n e h
    exact law_join _ _ w hw (fun w hl => text_neg n e h s pt hsh w hl) (fun w => numtext_neg n e h s pt hsh (fewC h hsh) w)
end Go.Proofs.YtdijkobiffhgcaaGreatDoor.Nu
