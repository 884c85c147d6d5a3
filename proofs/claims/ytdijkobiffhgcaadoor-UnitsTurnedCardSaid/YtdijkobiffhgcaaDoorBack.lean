/-
  UnitsBack: the law's own walk. Conditions: the units are readable, each from 0 to 65535; the tables of unicode/utf8 as they are laid.
-/
import Derived.Test.YtdijkobiffhgcaaDoorSame
import Derived.Test.YtdijkobiffhgcaaDoorText
import Derived.Laws.AppendOwnNone
namespace Go.Proofs.YtdijkobiffhgcaaDoor.Un
open Go.RowKit Go.Lib

theorem text_reads (v : Value) (zs : List Int) (w : World) (hz : zs.length ≤ 1000000000) (hr : ∀ u ∈ zs, 0 ≤ u ∧ u ≤ 65535) (h : Reads16 w v zs) :
    Calls Tryd.prog 5 #[v] w fun e w' => e = .returned (.string ⟨(textL zs).toArray⟩) ∧ Below w.heap.size w w' := by
  rcases h with ⟨rfl, ad, cap, rfl⟩ | ⟨b, off, cap, rfl, hc⟩
  · exact text_none ad cap w
  · by_cases h0 : zs.length = 0
    · obtain rfl : zs = [] := List.eq_nil_of_length_eq_zero h0
      exact text_none _ cap w
    · exact text_any b off cap zs w hz (World.block_lt_of_cell? w _ (hc 0 (by omega))) hr hc

theorem back_long (ad : Option Addr) (n cap : Nat) (w : World) (h : 4000 < n) :
    Calls Tryd.prog 3 #[.slice ad n cap] w fun e w' => e = .returned (.bool true) ∧ w = w' := by
  have h' : (4000 : Int) < (n : Int) := by omega
  go_enter Tryd.func3, Tryd.ntmps3
  go_wp2
  go_ret
  exact ⟨rfl, rfl⟩

set_option maxHeartbeats 400000 in
theorem back_some (a : Addr) (cap : Nat) (zs : List Int) (w : World) (hz : zs.length ≤ 4000) (hr : ∀ u ∈ zs, 0 ≤ u ∧ u ≤ 65535)
    (hc : ∀ j u, (u16Vals zs)[j]? = some u → w.cell? (a.add j) = some u) (hl : Reads16 w (.slice (some a) zs.length cap) zs) (hT : Utf8Tabs 1 2 w) :
    Calls Tryd.prog 3 #[.slice (some a) zs.length cap] w fun e w' => e = .returned (.bool true) ∧ Below w.heap.size w w' := by
  obtain ⟨i0, hi, hz0, hz1, hz2⟩ := info_parts info27
  have hz' : (zs.length : Int) ≤ 4000 := by omega
  go_enter Tryd.func3, Tryd.ntmps3
  go_wp2_with (at_builtin; refine wpList_append_own _ rfl _ _ 22 rfl w.heap.size 27 i0 (.int .u16 0) 1 2 Tryd.underlying22 hi hz0 hz1 hz2 rfl (by decide) (.slice none 0 0) 0 [] rfl (World.ownsRow_nil _ _ _ _) a zs.length cap (u16Vals zs) rfl ?c0 ?c1 ?c2 ?c3 ?c4 ?c5 ?_)
  case c0 => simp [u16Vals]
  case c1 => exact hc
  case c2 => intro u hu; simp only [u16Vals, List.mem_map] at hu; obtain ⟨x, _, rfl⟩ := hu; rfl
  case c3 => unfold maxLen; omega
  case c4 => omega
  case c5 => exact Nat.le_refl _
  intro v1 w1 own1 hg1 _
  clear hc
  have hb1 : Below w.heap.size w w1 := (Below.refl _ _).grown hg1 (Nat.le_refl _) (fun k hk => by simp [Value.ownBlock] at hk)
  have R1 := Reads16.of_owns own1
  have cT := text_reads v1 zs w1 (by omega) hr R1
  clear own1 hg1
  go_wp2_with fail
  refine cT.mono ?_
  rintro e w2 ⟨rfl, hb2⟩
  have H2 : Below w.heap.size w w2 := hb1.trans (hb2.mono hb1.size)
  have hlen : (textL zs).length ≤ 4 * zs.length := by rw [textL, toBytes_length]; exact textZ_length zs
  have cU := units_any ⟨(textL zs).toArray⟩ w2 (by show (textL zs).toArray.size ≤ _; rw [List.size_toArray]; omega) (tabs_below hT H2)
  rw [show (⟨(textL zs).toArray⟩ : ByteArray).data.toList = textL zs from rfl, units_text zs hr] at cU
  clear cT
  go_wp2_with fail
  refine cU.mono ?_
  rintro e w3 ⟨v2, rfl, own2, hb3, -⟩
  have H3 : Below w.heap.size w w3 := H2.trans (hb3.mono H2.size)
  have R2 := Reads16.of_owns own2
  have cS1 := same_any _ _ zs zs w3 (by omega) (hl.later H3) (R1.later (hb2.trans (hb3.mono hb2.size)))
  have cS2 : ∀ q, _ := fun q => same_any _ _ zs zs (w3.drewN q) (by omega) (hl.later (below_draws H3 q)) (R2.later (below_draws (Below.refl _ _) q))
  rw [beq_self_eq_true] at cS1
  simp only [beq_self_eq_true] at cS2
  clear cU own2 hb1 R1 R2 hl hr hlen
  go_wp2_with fail
  refine cS1.mono ?_
  rintro e w4 ⟨rfl, q, rfl⟩
  go_wp2_with fail
  refine (cS2 q).mono ?_
  rintro e w5 ⟨rfl, q', rfl⟩
  go_wp2
  go_ret
  exact ⟨rfl, below_draws H3 _⟩
set_option maxHeartbeats 400000 in
theorem back_nil (w : World) (hT : Utf8Tabs 1 2 w) :
    Calls Tryd.prog 3 #[.slice none 0 0] w fun e w' => e = .returned (.bool true) ∧ Below w.heap.size w w' := by
  obtain ⟨i0, hi, hz0, hz1, hz2⟩ := info_parts info27
  have kn := run_append_owned_none (P := Tryd.prog) w w.heap.size 22 22 27 i0 1 Tryd.underlying22 hi (.slice none 0 0) 0 [] (World.ownsRow_nil _ _ _ _)
  have R0 : ∀ w, Reads16 w (.slice none 0 0) [] := fun w => .inl ⟨rfl, none, 0, rfl⟩
  go_enter Tryd.func3, Tryd.ntmps3
  go_wp2_with fail
  refine (text_none none 0 _).mono ?_
  rintro e w2 ⟨rfl, hb2⟩
  have cU := units_any ⟨(textL []).toArray⟩ w2 (by decide) (tabs_below hT hb2)
  rw [show (⟨(textL []).toArray⟩ : ByteArray).data.toList = [] from rfl, unitsL_nil] at cU
  go_wp2_with fail
  refine cU.mono ?_
  rintro e w3 ⟨v2, rfl, own2, hb3, -⟩
  have H3 : Below w.heap.size w w3 := hb2.trans (hb3.mono hb2.size)
  have R2 := Reads16.of_owns own2
  have cS1 := same_any _ _ [] [] w3 (by decide) (R0 w3) (R0 w3)
  have cS2 : ∀ q, _ := fun q => same_any _ _ [] [] (w3.drewN q) (by decide) (R0 _) (R2.later (below_draws (Below.refl _ _) q))
  rw [beq_self_eq_true] at cS1
  simp only [beq_self_eq_true] at cS2
  clear cU own2 R2 R0
  go_wp2_with fail
  refine cS1.mono ?_
  rintro e w4 ⟨rfl, q, rfl⟩
  go_wp2_with fail
  refine (cS2 q).mono ?_
  rintro e w5 ⟨rfl, q', rfl⟩
  go_wp2
  go_ret
  exact ⟨rfl, below_draws H3 _⟩

end Go.Proofs.YtdijkobiffhgcaaDoor.Un
