/-
  The reference's Units: the units of a text. Conditions: a text of at most 1000000000 bytes; the tables of unicode/utf8 as they are laid.
-/
import Derived.Test.YtdijkobiffhgcaaDoorSame
import Derived.Test.YtdijkobiffhgcaaDoorStep
import Derived.Deep.DeepCutAuto
import Derived.Deep.LoopGhost
namespace Go.Proofs.YtdijkobiffhgcaaDoor.Un
open Go.RowKit Go.Lib

theorem byteAt_drop (l : List UInt8) (k j : Nat) : byteAt (l.drop k) j = byteAt l (k + j) := by
  unfold byteAt; rw [List.getElem?_drop]

/-- is it a half that stands alone, at the place k? -/
def Half (s : ByteArray) (k : Nat) : Prop := k + 2 < s.size ∧ byteAt s.data.toList k = 237 ∧ 160 ≤ byteAt s.data.toList (k + 1) ∧ byteAt s.data.toList (k + 1) ≤ 191 ∧ 128 ≤ byteAt s.data.toList (k + 2) ∧ byteAt s.data.toList (k + 2) ≤ 191

theorem next_half_at (s : ByteArray) (k : Nat) (h : Half s k) : nextL (s.data.toList.drop k) = (53248 + byteAt s.data.toList (k + 1) % 64 * 64 + byteAt s.data.toList (k + 2) % 64, 3) := by
  have e := nextL_half (s.extract k s.size) (by
    rw [extract_drop, byteAt_drop, byteAt_drop, byteAt_drop]
    have := h
    unfold Half at this
    have e : (s.extract k s.size).size = s.size - k := by simp
    rw [e]
    exact ⟨by omega, this.2.1, this.2.2.1, this.2.2.2.1, this.2.2.2.2.1, this.2.2.2.2.2⟩)
  rw [extract_drop, byteAt_drop, byteAt_drop] at e
  exact e

theorem next_else_at (s : ByteArray) (k : Nat) (hk : k < s.size) (R K : Nat) (hR : (decodeGo (s.extract k s.size)).1 = R) (hK : (decodeGo (s.extract k s.size)).2 = K) (h : ¬ Half s k) : nextL (s.data.toList.drop k) = (R, K) := by
  have e0 : (s.extract k s.size).size = s.size - k := by simp
  have e := nextL_else (s.extract k s.size) (by rw [e0]; omega) R K hR hK (by
    rintro ⟨_, _, a3, a4, a5, a6, a7, a8⟩
    rw [extract_drop, byteAt_drop] at a4 a5 a6 a7 a8
    rw [e0] at a3
    exact h ⟨by omega, a4, a5, a6, a7, a8⟩)
  rw [extract_drop] at e
  exact e

set_option maxRecDepth 100000 in
set_option maxHeartbeats 8000000 in
theorem runits_any (s : ByteArray) (w : World) (hs : s.size ≤ 1000000000) (hT : Utf8Tabs 1 2 w) :
    Calls Tryd.prog 8 #[.string s] w fun e w' => ∃ v, e = .returned v ∧ w'.ownsRow w.heap.size 27 1 v (unitsL s.data.toList).length (u16Vals (unitsL s.data.toList)) ∧ Below w.heap.size w w' ∧ (unitsL s.data.toList = [] → v = .slice none 0 0) := by
  obtain ⟨i0, hi, hz0, hz1, hz2⟩ := info_parts info27
  go_enter Tryd.func8, Tryd.ntmps8
  go_wp2_with fail
  go_loopg [3, 4] s.size (fun g v i wr => ∃ k : Nat, k ≤ s.size ∧ g = s.size - k ∧ i = .int .i64 k ∧ ∃ acc : List Int, wr.ownsRow w.heap.size 27 1 v acc.length (u16Vals acc) ∧ acc ++ unitsL (s.data.toList.drop k) = unitsL s.data.toList ∧ acc.length ≤ k ∧ Below w.heap.size w wr ∧ (acc = [] → v = .slice none 0 0))
  case atStart => exact ⟨0, Nat.zero_le _, rfl, rfl, [], World.ownsRow_nil _ _ _ _, rfl, by simp, Below.refl _ _, fun _ => rfl⟩
  case round =>
    obtain ⟨k, hk, rfl, rfl, acc, hown, hacc0, hal, hnx, hnil0⟩ := hrel
    have hacc := hideIt hacc0
    have hnil := hideIt hnil0
    clear hacc0 hnil0
    have hB : w.heap.size ≤ wr.heap.size := hnx.size
    have hTr := tabs_below hT hnx
    by_cases hlt : k < s.size
    · have hne : s.data.toList.drop k ≠ [] := fun h => by
        have := congrArg List.length h
        rw [List.length_drop, ← size_eq] at this
        simp at this
        omega
      have hst := hideIt (unitsL_step _ hne)
      have hpl := hideIt (piece_le _ hne)
      have hw := hideIt (nextL_width _ hne)
      have g0 := hideIt (byteAt_get s k hlt)
      by_cases hC : Half s k
      · have hN := next_half_at s k hC
        have h2 : k + 2 < s.size := hC.1
        have e0 : ((s[k].toNat : Nat) : Int) = 237 := by have := hC.2.1; rw [g0.out] at this; omega
        have l1 : ((s[k + 1].toNat : Nat) : Int) < 192 ∧ (160 : Int) ≤ s[k + 1].toNat := by have a := hC.2.2.1; have b := hC.2.2.2.1; rw [byteAt_get s (k + 1) (by omega)] at a b; omega
        have l2 : ((s[k + 2].toNat : Nat) : Int) < 192 ∧ (128 : Int) ≤ s[k + 2].toNat := by have a := hC.2.2.2.2.1; have b := hC.2.2.2.2.2; rw [byteAt_get s (k + 2) (by omega)] at a b; omega
        rw [byteAt_get s (k + 1) (by omega), byteAt_get s (k + 2) (by omega)] at hN
        have HN := hideIt hN
        clear hN hC hTr hne hpl hw g0
        obtain ⟨l1a, l1b⟩ := l1
        obtain ⟨l2a, l2b⟩ := l2
        go_wp2_with fail
        have s1 : IntKind.i64.wrap ((k : Int) + 1) = (k : Int) + 1 := IntWalk.i64_in _ (by omega)
        have s2 : IntKind.i64.wrap ((k : Int) + 2) = (k : Int) + 2 := IntWalk.i64_in _ (by omega)
        have t1 : ((k : Int) + 1).toNat = k + 1 := by omega
        have t2 : ((k : Int) + 2).toNat = k + 2 := by omega
        have b1 : (0 : Int) ≤ (k : Int) + 1 ∧ (k : Int) + 1 < s.size := by omega
        have b2 : (0 : Int) ≤ (k : Int) + 2 ∧ (k : Int) + 2 < s.size := by omega
        have hv : IntKind.u16.wrap (IntKind.i64.wrap (IntKind.i64.wrap (53248 + IntKind.i64.wrap (IntKind.i64.wrap (IntKind.u8.wrap ((s[k + 1].toNat : Int) - 128)) * 64)) + IntKind.i64.wrap (IntKind.u8.wrap ((s[k + 2].toNat : Int) - 128)))) = 53248 + (s[k + 1].toNat : Int) % 64 * 64 + (s[k + 2].toNat : Int) % 64 := by
          rw [IntKind.wrap_u8' ((s[k + 1].toNat : Int) - 128), IntKind.wrap_u8' ((s[k + 2].toNat : Int) - 128)]
          rw [IntWalk.i64_in (((s[k + 1].toNat : Int) - 128) % 256) (by omega), IntWalk.i64_in (((s[k + 2].toNat : Int) - 128) % 256) (by omega)]
          rw [IntWalk.i64_in (((s[k + 1].toNat : Int) - 128) % 256 * 64) (by omega), IntWalk.i64_in (53248 + ((s[k + 1].toNat : Int) - 128) % 256 * 64) (by omega), IntWalk.i64_in (53248 + ((s[k + 1].toNat : Int) - 128) % 256 * 64 + ((s[k + 2].toNat : Int) - 128) % 256) (by omega), IntKind.wrap_u16]
          omega
        go_region_law (refine step_append_own rfl (.tmp 50) (.tmp 67) 22 rfl w.heap.size 27 i0 (.int .u16 0) 1 2 Tryd.underlying22 hi hz0 hz1 hz2 rfl (by decide) _ _ _ rfl ((hown.alloc _).drew) ⟨wr.heap.size, 0, none⟩ 1 1 (u16Vals [53248 + (s[k + 1].toNat : Int) % 64 * 64 + (s[k + 2].toNat : Int) % 64]) rfl rfl (fun j u h => cells_new wr (u16Vals [53248 + (s[k + 1].toNat : Int) % 64 * 64 + (s[k + 2].toNat : Int) % 64]) 27 j u h) (by intro u hu; simp [u16Vals] at hu; subst hu; rfl) (by unfold maxLen; omega) (by omega) (by simp; omega) ?_; intro v' w1 hown' hgrow)
        clear hv
        all_goals
          have hs1 := owns_step16 (zs := [53248 + (s[k + 1].toNat : Int) % 64 * 64 + (s[k + 2].toNat : Int) % 64]) rfl hown'
          have hb1 := below_step hnx hB hown (grown_drew hgrow)
          clear hown' hgrow hown
          go_wp2
          go_roundg (s.size - (k + 3))
          case rel => exact ⟨k + 3, by omega, rfl, by go_num, _, hs1, by rw [← hacc.out, hst.out, HN.out, List.append_assoc, List.drop_drop, piece_low _ (by omega)]; rfl, by rw [List.length_append]; simp; omega, hb1, fun h => absurd h (by simp)⟩
          case measure => omega
      · obtain ⟨R, hR⟩ : ∃ R, (decodeGo (s.extract k s.size)).1 = R := ⟨_, rfl⟩
        obtain ⟨K, hK⟩ : ∃ K, (decodeGo (s.extract k s.size)).2 = K := ⟨_, rfl⟩
        have hN := next_else_at s k hlt R K hR hK hC
        have cD := Tryd.utf8_DecodeRuneInString (s.extract k s.size) wr hTr
        rw [hR, hK] at cD
        obtain ⟨r, hr1⟩ : ∃ r : Int, (R : Int) = r := ⟨_, rfl⟩
        rw [hr1] at cD
        have hw' := hw.out
        rw [hN] at hw'
        obtain ⟨hw1, hw2, _⟩ := hw'
        rw [List.length_drop, ← size_eq] at hw2
        simp only at hw1 hw2
        have hr2 := nextL_rune (s.data.toList.drop k)
        rw [hN] at hr2
        have hr0 : 0 ≤ r := by omega
        have hr3 : r ≤ 1114111 := by simp only at hr2; omega
        clear hR hK hr2 hTr hw
        have HN := hideIt hN
        have HC := hideIt hC
        clear hN hC
        go_upto_region 4 with fail
        go_cut [49] (fun v wx => v = .bool false ∧ wx = wr)
        case first =>
          by_cases h2 : k + 2 < s.size
          · have hC2 : ¬ (((s[k].toNat : Nat) : Int) = 237 ∧ (160 : Int) ≤ s[k + 1].toNat ∧ ((s[k + 1].toNat : Nat) : Int) < 192 ∧ (128 : Int) ≤ s[k + 2].toNat ∧ ((s[k + 2].toNat : Nat) : Int) < 192) := by
              rintro ⟨a, b, c, d, e⟩
              refine HC.out ⟨h2, ?_, ?_, ?_, ?_, ?_⟩
              · rw [g0.out]; omega
              · rw [byteAt_get s (k + 1) (by omega)]; omega
              · rw [byteAt_get s (k + 1) (by omega)]; omega
              · rw [byteAt_get s (k + 2) (by omega)]; omega
              · rw [byteAt_get s (k + 2) (by omega)]; omega
            clear HC g0
            go_wp2_with fail
            all_goals (go_meet; exact ⟨by first | rfl | exact congrArg Value.bool (decide_eq_false (by omega)), rfl⟩)
          · have h3 : ¬ ((2 : Int) < (s.size : Int) - k) := by omega
            go_wp2_with fail
            all_goals (go_meet; exact ⟨rfl, rfl⟩)
        case rest =>
          obtain ⟨rfl, rfl⟩ := hcut
          clear HC g0
          by_cases hbig : 65536 ≤ r
          · have hp : Hid (piece R = [55296 + (r - 65536) / 1024, 56320 + (r - 65536) % 1024]) := by show piece R = _; rw [piece_high R (by omega), hr1]
            have hbig' : 65535 < r := by omega
            clear hr1 hne
            go_wp2_with (first | (go_at_call 19; refine cD.mono ?_; rintro e w2 ⟨rfl, hb2⟩; have hown2 := owns_below hown hb2) | (at_builtin; refine wpList_append_own _ rfl _ _ 22 rfl w.heap.size 27 i0 (.int .u16 0) 1 2 Tryd.underlying22 hi hz0 hz1 hz2 rfl (by decide) _ _ _ rfl (hown2.alloc _) ⟨w2.heap.size, 0, none⟩ 2 2 (u16Vals [55296 + (r - 65536) / 1024, 56320 + (r - 65536) % 1024]) rfl rfl ?c1 ?c2 ?c3 ?c4 ?c5 ?_))
            case c1 => exact cells_new _ _ _
            case c2 => intro u hu; simp [u16Vals] at hu; rcases hu with rfl | rfl <;> rfl
            case c3 => unfold maxLen; omega
            case c4 => omega
            case c5 => have := hb2.size; simp; omega
            intro v' w1 hown' hgrow _
            have hs1 := owns_step16 (zs := [55296 + (r - 65536) / 1024, 56320 + (r - 65536) % 1024]) rfl hown'
            have hb1 := below_step (hnx.trans (hb2.mono hnx.size)) (by have := hb2.size; omega) hown2 hgrow
            rw [← hp.out] at hs1
            clear hown' hgrow hown hown2
            go_wp2
            go_roundg (s.size - (k + K))
            case rel => exact ⟨k + K, by omega, rfl, by go_num, _, hs1, by rw [← hacc.out, hst.out, HN.out, List.append_assoc, List.drop_drop], by rw [List.length_append]; have := hpl.out; rw [HN.out] at this; simp only at this; omega, hb1, fun h => absurd h (by rw [hp.out]; simp)⟩
            case measure => omega
          · have hp : Hid (piece R = [r]) := by show piece R = _; rw [piece_low R (by omega), hr1]
            have hrlt : r ≤ 65535 := by omega
            clear hr1 hbig hne
            go_wp2_with (first | (go_at_call 19; refine cD.mono ?_; rintro e w2 ⟨rfl, hb2⟩; have hown2 := owns_below hown hb2) | (at_builtin; refine wpList_append_own _ rfl _ _ 22 rfl w.heap.size 27 i0 (.int .u16 0) 1 2 Tryd.underlying22 hi hz0 hz1 hz2 rfl (by decide) _ _ _ rfl (hown2.alloc _) ⟨w2.heap.size, 0, none⟩ 1 1 (u16Vals [r]) rfl rfl ?c1 ?c2 ?c3 ?c4 ?c5 ?_))
            case c1 => exact cells_new _ _ _
            case c2 => intro u hu; simp [u16Vals] at hu; subst hu; rfl
            case c3 => unfold maxLen; omega
            case c4 => omega
            case c5 => have := hb2.size; simp; omega
            intro v' w1 hown' hgrow _
            have hs1 := owns_step16 (zs := [r]) rfl hown'
            have hb1 := below_step (hnx.trans (hb2.mono hnx.size)) (by have := hb2.size; omega) hown2 hgrow
            rw [← hp.out] at hs1
            clear hown' hgrow hown hown2
            go_wp2
            go_roundg (s.size - (k + K))
            case rel => exact ⟨k + K, by omega, rfl, by go_num, _, hs1, by rw [← hacc.out, hst.out, HN.out, List.append_assoc, List.drop_drop], by rw [List.length_append]; have := hpl.out; rw [HN.out] at this; simp only at this; omega, hb1, fun h => absurd h (by rw [hp.out]; simp)⟩
            case measure => omega
    · have hk' : ¬ ((k : Int) < s.size) := by omega
      go_wp2_with fail
      go_ret
      have e := hacc.out
      rw [List.drop_eq_nil_of_le (by rw [← size_eq]; omega), unitsL_nil, List.append_nil] at e
      rw [← e]
      exact ⟨_, rfl, hown, hnx, hnil.out⟩
end Go.Proofs.YtdijkobiffhgcaaDoor.Un
