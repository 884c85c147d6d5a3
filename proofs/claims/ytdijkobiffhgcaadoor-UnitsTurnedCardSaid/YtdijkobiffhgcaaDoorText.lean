/-
  The program's Text: the text of units. Conditions: at most 1000000000 units, each from 0 to 65535, that lie in memory ahead of the call.
-/
import Derived.Test.YtdijkobiffhgcaaDoorSmall
import Derived.Test.YtdijkobiffhgcaaDoorMem
namespace Go.Proofs.YtdijkobiffhgcaaDoor.Un
open Go.RowKit Go.Lib

theorem info5 : (Tryd.prog.info? 5).map (fun i => (i.zero, i.size, i.bytes)) = some (some (.int .u8 0), 1, 1) := by kernel_rfl

theorem shr6_u16 (u : Int) (h0 : 0 ≤ u) (h1 : u ≤ 65535) : bits .or .u8 128 (bits .and .u16 (u / 64) 63 % 256) = 128 + u / 64 % 64 := by
  rw [u16_and_63 _ (by omega) (by omega), u8_or_128 _ (by omega) (by omega)]; omega
theorem low6_u16 (u : Int) (h0 : 0 ≤ u) (h1 : u ≤ 65535) : bits .or .u8 128 (bits .and .u16 u 63 % 256) = 128 + u % 64 := by
  rw [u16_and_63 _ h0 h1, u8_or_128 _ (by omega) (by omega)]; omega

set_option maxHeartbeats 1000000 in
theorem text_any (b off cap : Nat) (zs : List Int) (w : World) (hz : zs.length ≤ 1000000000) (hb : b < w.heap.size)
    (hr : ∀ u ∈ zs, 0 ≤ u ∧ u ≤ 65535)
    (hc : ∀ j, j < zs.length → w.cell? ⟨b, off + j, none⟩ = some (.int .u16 (zs.getD j 0))) :
    Calls Tryd.prog 5 #[.slice (some ⟨b, off, none⟩) zs.length cap] w fun e w' => e = .returned (.string ⟨(textL zs).toArray⟩) ∧ Below w.heap.size w w' := by
  obtain ⟨i0, hi, hz0, hz1, hz2⟩ := info_parts info5
  go_enter Tryd.func5, Tryd.ntmps5
  go_wp2_with fail
  go_loopw [3, 4] (fun v i wr => ∃ k : Nat, k ≤ zs.length ∧ i = .int .i64 k ∧ ∃ acc : List UInt8, wr.ownsRow w.heap.size 5 1 v acc.length (byteCells acc) ∧ acc ++ textL (zs.drop k) = textL zs ∧ acc.length ≤ 4 * k ∧ Below w.heap.size w wr)
    (fun _ i _ => zs.length - (RowKit.intOf i).toNat)
  case atStart => exact ⟨0, Nat.zero_le _, rfl, [], World.ownsRow_nil _ _ _ _, by simp, by simp, Below.refl _ _⟩
  case round =>
    obtain ⟨k, hk, rfl, acc, hown, hacc0, hal, hnx⟩ := hrel
    have hacc := hideIt hacc0
    clear hacc0
    have hB : w.heap.size ≤ wr.heap.size := hnx.size
    by_cases hlt : k < zs.length
    · have D1 := hideIt (textL_drop_one zs k hlt)
      have D2 := hideIt (textL_drop_pair zs k)
      obtain ⟨U, hU⟩ : ∃ U, zs.getD k 0 = U := ⟨_, rfl⟩
      rw [hU] at D1 D2
      have hcx : wr.cell? ⟨b, off + k, none⟩ = some (.int .u16 U) := by rw [← hU]; exact (hnx.cell (by exact hb)).trans (hc k hlt)
      obtain ⟨hU0, hU1⟩ : 0 ≤ U ∧ U ≤ 65535 := hr U (by rw [← hU]; simp [List.getD, List.getElem?_eq_getElem hlt])
      clear hU
      obtain ⟨V, hV⟩ : ∃ V, zs.getD (k + 1) 0 = V := ⟨_, rfl⟩
      rw [hV] at D1 D2
      have hcy : k + 1 < zs.length → wr.cell? ⟨b, off + (k + 1), none⟩ = some (.int .u16 V) := fun h1 => by rw [← hV]; exact (hnx.cell (by exact hb)).trans (hc (k + 1) h1)
      have hVr : k + 1 < zs.length → 0 ≤ V ∧ V ≤ 65535 := fun h1 => hr V (by rw [← hV]; simp [List.getD, List.getElem?_eq_getElem h1])
      clear hV
      by_cases hh : hiU U = true
      · by_cases hk1 : k + 1 < zs.length
        · obtain ⟨hV0, hV1⟩ := hVr hk1
          have hcy1 := hcy hk1
          clear hcy hVr
          by_cases hl : loU V = true
          · have E1 := hideIt (D2.out hk1 hh hl)
            clear D1 D2
            have a1 := u16_and_1023 U hU0 hU1
            have a2 := u16_and_1023 V hV0 hV1
            go_wp2_with (first | (go_at_call 15; refine (high_any U hU0 hU1 _).mono ?_; rintro e w' ⟨rfl, rfl⟩) | (go_at_call 16; refine (low_any V hV0 hV1 _).mono ?_; rintro e w' ⟨rfl, rfl⟩))
            refine (Tryd.utf8_AppendRune_plain _ _ _ _ (65536 + U % 1024 * 1024 + V % 1024) (by omega) (by omega) _ hown (by omega) hB).mono ?_
            rintro e w1 ⟨v', rfl, hown', o, hgrow⟩
            have hUV : 65536 + U % 1024 * 1024 + V % 1024 = 65536 + (U - 55296) * 1024 + (V - 56320) := by
              have := (hiU_iff U).1 hh
              have := (loU_iff V).1 hl
              omega
            rw [hUV] at hown'
            have hs := owns_step (zs := encodeRuneZ (65536 + (U - 55296) * 1024 + (V - 56320))) (encodeRuneZ_byte _) rfl (by simpa [runeCells, byteVals] using hown')
            have hb1 := below_step hnx hB hown hgrow
            have hlen := (encodeRuneZ_length (65536 + (U - 55296) * 1024 + (V - 56320))).2
            clear hown' hgrow hown hcx hUV a1 a2 hcy1
            go_wp2
            go_roundw
            case rel => exact ⟨k + 2, by omega, by go_num, _, hs, by rw [← hacc.out, E1.out, List.append_assoc], by rw [List.length_append, toBytes_length]; omega, hb1⟩
            case measure => simp [RowKit.intOf]; omega
          · simp only [Bool.not_eq_true] at hl
            have E1 := hideIt (D1.out (by rw [hl]; simp))
            clear D1 D2
            have e1 := shr6_u16 U hU0 hU1
            have e2 := low6_u16 U hU0 hU1
            have hone : Hid (oneZ U = [237, 128 + U / 64 % 64, 128 + U % 64]) := by
              have := (hiU_iff U).1 hh
              show oneZ U = _
              unfold oneZ; rw [if_pos (by omega)]
            go_wp2_with (first | (go_at_call 15; refine (high_any U hU0 hU1 _).mono ?_; rintro e w' ⟨rfl, rfl⟩) | (go_at_call 16; refine (low_any V hV0 hV1 _).mono ?_; rintro e w' ⟨rfl, rfl⟩) | (at_builtin; refine wpList_append_own _ rfl _ _ 32 rfl w.heap.size 5 i0 (.int .u8 0) 1 1 Tryd.underlying32 hi hz0 hz1 hz2 rfl (by decide) _ _ _ rfl (hown.alloc _) ⟨wr.heap.size, 0, none⟩ 3 3 (byteVals [237, 128 + U / 64 % 64, 128 + U % 64]) rfl rfl ?c1 ?c2 ?c3 ?c4 ?c5 ?_))
            case c1 => exact cells_new _ _ _
            case c2 => intro u hu; simp [byteVals] at hu; rcases hu with rfl | rfl | rfl <;> rfl
            case c3 => unfold maxLen; omega
            case c4 => omega
            case c5 => simp; omega
            intro v' w1 hown' hgrow _
            rw [← hone.out] at hown'
            have hs := owns_step (oneZ_byte U) (by rw [hone.out]; rfl) hown'
            have hb1 := below_step hnx hB hown hgrow
            have hlen := (oneZ_length U).2
            clear hown' hgrow hown hcx
            go_wp2
            go_roundw
            case rel => exact ⟨k + 1, by omega, by go_num, _, hs, by rw [← hacc.out, E1.out, List.append_assoc], by rw [List.length_append, toBytes_length]; omega, hb1⟩
            case measure => simp [RowKit.intOf]; omega

        · have E1 := hideIt (D1.out (by simp [hk1]))
          clear D1 D2 hcy hVr
          have e1 := shr6_u16 U hU0 hU1
          have e2 := low6_u16 U hU0 hU1
          have hone : Hid (oneZ U = [237, 128 + U / 64 % 64, 128 + U % 64]) := by
            have := (hiU_iff U).1 hh
            show oneZ U = _
            unfold oneZ; rw [if_pos (by omega)]
          go_wp2_with (first | (go_at_call 15; refine (high_any U hU0 hU1 _).mono ?_; rintro e w' ⟨rfl, rfl⟩) | (go_at_call 16; refine (low_any U hU0 hU1 _).mono ?_; rintro e w' ⟨rfl, rfl⟩) | (at_builtin; refine wpList_append_own _ rfl _ _ 32 rfl w.heap.size 5 i0 (.int .u8 0) 1 1 Tryd.underlying32 hi hz0 hz1 hz2 rfl (by decide) _ _ _ rfl (hown.alloc _) ⟨wr.heap.size, 0, none⟩ 3 3 (byteVals [237, 128 + U / 64 % 64, 128 + U % 64]) rfl rfl ?c1 ?c2 ?c3 ?c4 ?c5 ?_))
          case c1 => exact cells_new _ _ _
          case c2 => intro u hu; simp [byteVals] at hu; rcases hu with rfl | rfl | rfl <;> rfl
          case c3 => unfold maxLen; omega
          case c4 => omega
          case c5 => simp; omega
          intro v' w1 hown' hgrow _
          rw [← hone.out] at hown'
          have hs := owns_step (oneZ_byte U) (by rw [hone.out]; rfl) hown'
          have hb1 := below_step hnx hB hown hgrow
          have hlen := (oneZ_length U).2
          clear hown' hgrow hown hcx
          go_wp2
          go_roundw
          case rel => exact ⟨k + 1, by omega, by go_num, _, hs, by rw [← hacc.out, E1.out, List.append_assoc], by rw [List.length_append, toBytes_length]; omega, hb1⟩
          case measure => simp [RowKit.intOf]; omega
      · simp only [Bool.not_eq_true] at hh
        have E1 := hideIt (D1.out (by rw [hh]; simp))
        clear D1 D2 hcy hVr
        by_cases hl : loU U = true
        · have e1 := shr6_u16 U hU0 hU1
          have e2 := low6_u16 U hU0 hU1
          have hone : Hid (oneZ U = [237, 128 + U / 64 % 64, 128 + U % 64]) := by
            have := (loU_iff U).1 hl
            show oneZ U = _
            unfold oneZ; rw [if_pos (by omega)]
          go_wp2_with (first | (go_at_call 15; refine (high_any U hU0 hU1 _).mono ?_; rintro e w' ⟨rfl, rfl⟩) | (go_at_call 16; refine (low_any U hU0 hU1 _).mono ?_; rintro e w' ⟨rfl, rfl⟩) | (at_builtin; refine wpList_append_own _ rfl _ _ 32 rfl w.heap.size 5 i0 (.int .u8 0) 1 1 Tryd.underlying32 hi hz0 hz1 hz2 rfl (by decide) _ _ _ rfl (hown.alloc _) ⟨wr.heap.size, 0, none⟩ 3 3 (byteVals [237, 128 + U / 64 % 64, 128 + U % 64]) rfl rfl ?c1 ?c2 ?c3 ?c4 ?c5 ?_))
          case c1 => exact cells_new _ _ _
          case c2 => intro u hu; simp [byteVals] at hu; rcases hu with rfl | rfl | rfl <;> rfl
          case c3 => unfold maxLen; omega
          case c4 => omega
          case c5 => simp; omega
          intro v' w1 hown' hgrow _
          rw [← hone.out] at hown'
          have hs := owns_step (oneZ_byte U) (by rw [hone.out]; rfl) hown'
          have hb1 := below_step hnx hB hown hgrow
          have hlen := (oneZ_length U).2
          clear hown' hgrow hown hcx
          go_wp2
          go_roundw
          case rel => exact ⟨k + 1, by omega, by go_num, _, hs, by rw [← hacc.out, E1.out, List.append_assoc], by rw [List.length_append, toBytes_length]; omega, hb1⟩
          case measure => simp [RowKit.intOf]; omega
        · simp only [Bool.not_eq_true] at hl
          have hone : Hid (oneZ U = encodeRuneZ U) := by
            show oneZ U = _
            unfold oneZ; rw [if_neg]
            rintro ⟨a, b⟩
            have n1 : ¬ (55296 ≤ U ∧ U < 56320) := fun h => by rw [(hiU_iff U).2 h] at hh; cases hh
            have n2 : ¬ (56320 ≤ U ∧ U < 57344) := fun h => by rw [(loU_iff U).2 h] at hl; cases hl
            omega
          go_wp2_with (first | (go_at_call 15; refine (high_any U hU0 hU1 _).mono ?_; rintro e w' ⟨rfl, rfl⟩) | (go_at_call 16; refine (low_any U hU0 hU1 _).mono ?_; rintro e w' ⟨rfl, rfl⟩) | (go_at_call 17; refine (Tryd.utf8_AppendRune_plain _ _ _ _ U (by omega) (by omega) _ hown (by omega) hB).mono ?_))
          rintro e w1 ⟨v', rfl, hown', o, hgrow⟩
          have hs := owns_step (zs := oneZ U) (oneZ_byte U) rfl (by rw [hone.out]; simpa [runeCells, byteVals] using hown')
          have hb1 := below_step hnx hB hown hgrow
          have hlen := (oneZ_length U).2
          clear hown' hgrow hown hcx
          go_wp2
          go_roundw
          case rel => exact ⟨k + 1, by omega, by go_num, _, hs, by rw [← hacc.out, E1.out, List.append_assoc], by rw [List.length_append, toBytes_length]; omega, hb1⟩
          case measure => simp [RowKit.intOf]; omega
    · have hk' : Hid (k = zs.length) := by show k = zs.length; omega
      have kc := run_convert_row wr 32 9 5 Tryd.underlying32 Tryd.underlying5 Tryd.underlying9 hown
      go_wp2
      go_ret
      refine ⟨?_, hnx⟩
      have e := hacc.out
      rw [List.drop_eq_nil_of_le (by omega), show textL [] = [] from rfl, List.append_nil] at e
      rw [← e]; rfl
set_option maxHeartbeats 400000 in
/-- .. of no units. -/
theorem text_none (a : Option Addr) (cap : Nat) (w : World) :
    Calls Tryd.prog 5 #[.slice a 0 cap] w fun e w' => e = .returned (.string ⟨(textL []).toArray⟩) ∧ Below w.heap.size w w' := by
  have kc := run_convert_row (P := Tryd.prog) w 32 9 5 Tryd.underlying32 Tryd.underlying5 Tryd.underlying9 (B := 0) (n := 0) (v := .slice none 0 0) (l := []) (World.ownsRow_nil _ _ _ _)
  go_enter Tryd.func5, Tryd.ntmps5
  go_wp2_with fail
  refine wp_loop_rounds 1 ?_
  rw [rounds_succ]
  go_wp2
  go_ret
  exact ⟨rfl, Below.refl _ _⟩

end Go.Proofs.YtdijkobiffhgcaaDoor.Un
