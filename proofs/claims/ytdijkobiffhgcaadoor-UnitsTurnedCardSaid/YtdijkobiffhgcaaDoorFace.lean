/-
  Upper, Lower, Trim of a text. Conditions: at most 4000 bytes; the tables as they are laid.
-/
import Derived.Test.YtdijkobiffhgcaaDoorTrim
import Derived.Test.YtdijkobiffhgcaaDoorCased
namespace Go.Proofs.YtdijkobiffhgcaaDoor.Un
open Go.RowKit Go.Lib

/-- the text of units, as a string. -/
def textS (zs : List Int) : ByteArray := ⟨(textL zs).toArray⟩

set_option maxHeartbeats 400000 in
theorem strupper_any (zs : List Int) (w : World) (hz : zs.length ≤ 1000000) (hr : ∀ u ∈ zs, 0 ≤ u ∧ u ≤ 65535) (hT : Utf8Tabs 1 2 w) (hC : CaseVar 3 caseA w) :
    Calls Tryd.prog 25 #[.string (packS zs)] w fun e w' => e = .returned (.string (packS (casedL toUpperU zs))) ∧ Below w.heap.size w w' := by
  have cM := map_upper zs w hz hr hT hC
  rw [units_map toUpperU zs hr] at cM
  clear hT hC
  go_enter Tryd.func25, Tryd.ntmps25
  go_wp2_with fail
  refine cM.mono ?_
  rintro e w1 ⟨rfl, hb1⟩
  go_wp2_with fail
  go_ret
  exact ⟨rfl, hb1⟩

set_option maxHeartbeats 1000000 in
theorem upper_any (s : ByteArray) (w : World) (hs : s.size ≤ 4000) (hT : Utf8Tabs 1 2 w) (hC : CaseVar 3 caseA w) :
    Calls Tryd.prog 11 #[.string s] w fun e w' => e = .returned (.string (textS (casedL toUpperU (unitsL s.data.toList)))) ∧ Below w.heap.size w w' := by
  have cO := of_any s w (by omega) hT
  have hlU := unitsL_length s.data.toList
  have hrU := unitsL_range s.data.toList
  rw [show s.data.toList.length = s.size from rfl] at hlU
  obtain ⟨U, hU⟩ : ∃ U, unitsL s.data.toList = U := ⟨_, rfl⟩
  rw [hU] at cO hlU hrU ⊢
  clear hU
  go_enter Tryd.func11, Tryd.ntmps11
  go_wp2_with fail
  refine cO.mono ?_
  rintro e w1 ⟨rfl, hb1⟩
  have cM := strupper_any U w1 (by omega) hrU (tabs_below hT hb1) (case_below hC hb1)
  clear cO hT hC
  go_wp2_with fail
  refine cM.mono ?_
  rintro e w2 ⟨rfl, hb2⟩
  have cS := string_any (casedL toUpperU U) w2 (by have := casedL_length toUpperU U; omega) (casedL_range toUpperU U hrU)
  clear cM
  go_wp2_with fail
  refine cS.mono ?_
  rintro e w3 ⟨rfl, hb3⟩
  go_wp2_with fail
  go_ret
  exact ⟨rfl, hb1.trans ((hb2.trans (hb3.mono hb2.size)).mono hb1.size)⟩

set_option maxHeartbeats 400000 in
theorem strlower_any (zs : List Int) (w : World) (hz : zs.length ≤ 1000000) (hr : ∀ u ∈ zs, 0 ≤ u ∧ u ≤ 65535) (hT : Utf8Tabs 1 2 w) (hC : CaseVar 3 caseA w) :
    Calls Tryd.prog 27 #[.string (packS zs)] w fun e w' => e = .returned (.string (packS (casedL toLowerU zs))) ∧ Below w.heap.size w w' := by
  have cM := map_lower zs w hz hr hT hC
  rw [units_map toLowerU zs hr] at cM
  clear hT hC
  go_enter Tryd.func27, Tryd.ntmps27
  go_wp2_with fail
  refine cM.mono ?_
  rintro e w1 ⟨rfl, hb1⟩
  go_wp2_with fail
  go_ret
  exact ⟨rfl, hb1⟩

set_option maxHeartbeats 1000000 in
theorem lower_any (s : ByteArray) (w : World) (hs : s.size ≤ 4000) (hT : Utf8Tabs 1 2 w) (hC : CaseVar 3 caseA w) :
    Calls Tryd.prog 12 #[.string s] w fun e w' => e = .returned (.string (textS (casedL toLowerU (unitsL s.data.toList)))) ∧ Below w.heap.size w w' := by
  have cO := of_any s w (by omega) hT
  have hlU := unitsL_length s.data.toList
  have hrU := unitsL_range s.data.toList
  rw [show s.data.toList.length = s.size from rfl] at hlU
  obtain ⟨U, hU⟩ : ∃ U, unitsL s.data.toList = U := ⟨_, rfl⟩
  rw [hU] at cO hlU hrU ⊢
  clear hU
  go_enter Tryd.func12, Tryd.ntmps12
  go_wp2_with fail
  refine cO.mono ?_
  rintro e w1 ⟨rfl, hb1⟩
  have cM := strlower_any U w1 (by omega) hrU (tabs_below hT hb1) (case_below hC hb1)
  clear cO hT hC
  go_wp2_with fail
  refine cM.mono ?_
  rintro e w2 ⟨rfl, hb2⟩
  have cS := string_any (casedL toLowerU U) w2 (by have := casedL_length toLowerU U; omega) (casedL_range toLowerU U hrU)
  clear cM
  go_wp2_with fail
  refine cS.mono ?_
  rintro e w3 ⟨rfl, hb3⟩
  go_wp2_with fail
  go_ret
  exact ⟨rfl, hb1.trans ((hb2.trans (hb3.mono hb2.size)).mono hb1.size)⟩

set_option maxHeartbeats 1000000 in
theorem trim_any (s : ByteArray) (w : World) (hs : s.size ≤ 4000) (hT : Utf8Tabs 1 2 w) (hZ : RVar 0 zsT w) :
    Calls Tryd.prog 14 #[.string s] w fun e w' => ∃ i k, Trimmed (unitsL s.data.toList) i k ∧ e = .returned (.string (textS (((unitsL s.data.toList).take k).drop i))) ∧ Below w.heap.size w w' := by
  have cO := of_any s w (by omega) hT
  have hlU := unitsL_length s.data.toList
  have hrU := unitsL_range s.data.toList
  rw [show s.data.toList.length = s.size from rfl] at hlU
  obtain ⟨U, hU⟩ : ∃ U, unitsL s.data.toList = U := ⟨_, rfl⟩
  rw [hU] at cO hlU hrU ⊢
  clear hU
  go_enter Tryd.func14, Tryd.ntmps14
  go_wp2_with fail
  refine cO.mono ?_
  rintro e w1 ⟨rfl, hb1⟩
  have cM := strtrim_any U w1 (by omega) hrU (zs_below hZ hb1)
  clear cO hT hZ
  go_wp2_with fail
  refine cM.mono ?_
  rintro e w2 ⟨i, k, hik, rfl, hb2⟩
  have hsub : ∀ u ∈ (U.take k).drop i, 0 ≤ u ∧ u ≤ 65535 := fun u hu => hrU u (List.mem_of_mem_take (List.mem_of_mem_drop hu))
  have hln : ((U.take k).drop i).length ≤ 4000 := by rw [List.length_drop, List.length_take]; omega
  have cS := string_any ((U.take k).drop i) w2 (by omega) hsub
  have HIK := hideIt hik
  clear cM hik hsub hln hrU hlU
  go_wp2_with fail
  refine cS.mono ?_
  rintro e w3 ⟨rfl, hb3⟩
  go_wp2_with fail
  go_ret
  exact ⟨i, k, HIK.out, rfl, hb1.trans ((hb2.trans (hb3.mono hb2.size)).mono hb1.size)⟩

end Go.Proofs.YtdijkobiffhgcaaDoor.Un
