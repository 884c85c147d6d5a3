/-
  The reference's Cased. Conditions: at most 1000000 units, each from 0 to 65535, readable; the tables of unicode/utf8 and unicode.CaseRanges as they are laid.
-/
import Derived.Test.YtdijkobiffhgcaaDoorMap
import Derived.Test.YtdijkobiffhgcaaDoorRUnits
namespace Go.Proofs.YtdijkobiffhgcaaDoor.Un
open Go.RowKit Go.Lib

theorem encode_bytes (r : Int) : (Utf8.encode r).data.toList = toBytes (encodeRuneZ r) := by
  by_cases a : 0 ≤ r ∧ r ≤ 127
  · have hv : Utf8.valid r = true := by simp [Utf8.valid]; omega
    rw [encodeRuneZ_one a.1 a.2]
    simp [Utf8.encode, hv, show r.toNat < 128 by omega, toBytes]
  · by_cases b : 128 ≤ r ∧ r ≤ 2047
    · have hv : Utf8.valid r = true := by simp [Utf8.valid]; omega
      rw [encodeRuneZ_two b.1 b.2]
      simp only [Utf8.encode, hv, if_true, show ¬ r.toNat < 128 by omega, if_false, show r.toNat < 2048 by omega, toBytes, List.map_cons, List.map_nil]
      rw [show (192 + r / 64).toNat = 192 + r.toNat / 64 by omega, show (128 + r % 64).toNat = 128 + r.toNat % 64 by omega]
    · by_cases c : (2048 ≤ r ∧ r < 55296) ∨ (57343 < r ∧ r ≤ 65535)
      · have hv : Utf8.valid r = true := by simp [Utf8.valid]; omega
        rw [encodeRuneZ_three c]
        simp only [Utf8.encode, hv, if_true, show ¬ r.toNat < 128 by omega, if_false, show ¬ r.toNat < 2048 by omega, show r.toNat < 65536 by omega, toBytes, List.map_cons, List.map_nil]
        rw [show (224 + r / 4096).toNat = 224 + r.toNat / 4096 by omega, show (128 + r / 64 % 64).toNat = 128 + r.toNat / 64 % 64 by omega, show (128 + r % 64).toNat = 128 + r.toNat % 64 by omega]
      · by_cases d : 65536 ≤ r ∧ r ≤ 1114111
        · have hv : Utf8.valid r = true := by simp [Utf8.valid]; omega
          rw [encodeRuneZ_four d.1 d.2]
          simp only [Utf8.encode, hv, if_true, show ¬ r.toNat < 128 by omega, if_false, show ¬ r.toNat < 2048 by omega, show ¬ r.toNat < 65536 by omega, toBytes, List.map_cons, List.map_nil]
          rw [show (240 + r / 262144).toNat = 240 + r.toNat / 262144 by omega, show (128 + r / 4096 % 64).toNat = 128 + r.toNat / 4096 % 64 by omega, show (128 + r / 64 % 64).toNat = 128 + r.toNat / 64 % 64 by omega, show (128 + r % 64).toNat = 128 + r.toNat % 64 by omega]
        · have hv : Utf8.valid r = false := by simp [Utf8.valid]; omega
          rw [encodeRuneZ_bad (by omega)]
          simp [Utf8.encode, hv, Utf8.runeError, toBytes]

theorem units_string (x : Int) : unitsL (Utf8.encode x).data.toList = cp x := by
  rw [encode_bytes]
  have := units_cp x []
  rwa [List.append_nil, unitsL_nil, List.append_nil] at this

theorem cp_ne (x : Int) : cp x ≠ [] := by
  unfold cp piece
  split
  · split <;> simp
  · simp

theorem casedL_drop_one (F : Int → Int) (zs : List Int) (k : Nat) (hk : k < zs.length) (h : ¬ (hiU (zs.getD k 0) = true ∧ k + 1 < zs.length ∧ loU (zs.getD (k + 1) 0) = true)) :
    casedL F (zs.drop k) = (if 55296 ≤ zs.getD k 0 ∧ zs.getD k 0 < 57344 then [zs.getD k 0] else cp (F (zs.getD k 0))) ++ casedL F (zs.drop (k + 1)) := by
  have e1 : zs.drop k = zs.getD k 0 :: zs.drop (k + 1) := by
    rw [List.drop_eq_getElem_cons hk]; simp [List.getD, List.getElem?_eq_getElem hk]
  rw [e1]
  by_cases hk1 : k + 1 < zs.length
  · have e2 : zs.drop (k + 1) = zs.getD (k + 1) 0 :: zs.drop (k + 2) := by
      rw [List.drop_eq_getElem_cons hk1]; simp [List.getD, List.getElem?_eq_getElem hk1]
    rw [e2, casedL, if_neg (fun hh => h ⟨hh.1, hk1, hh.2⟩)]
  · rw [List.drop_eq_nil_of_le (show zs.length ≤ k + 1 by omega), casedL, casedL, List.append_nil]

theorem casedL_drop_pair (F : Int → Int) (zs : List Int) (k : Nat) (hk : k + 1 < zs.length) (h0 : hiU (zs.getD k 0) = true) (h1 : loU (zs.getD (k + 1) 0) = true) :
    casedL F (zs.drop k) = cp (F (65536 + (zs.getD k 0 - 55296) * 1024 + zs.getD (k + 1) 0 - 56320)) ++ casedL F (zs.drop (k + 2)) := by
  have e1 : zs.drop k = zs.getD k 0 :: zs.drop (k + 1) := by
    rw [List.drop_eq_getElem_cons (by omega)]; simp [List.getD, List.getElem?_eq_getElem (show k < zs.length by omega)]
  have e2 : zs.drop (k + 1) = zs.getD (k + 1) 0 :: zs.drop (k + 2) := by
    rw [List.drop_eq_getElem_cons hk]; simp [List.getD, List.getElem?_eq_getElem hk]
  rw [e1, e2, casedL, if_pos ⟨h0, h1⟩]

/-- an owned row that is not empty begins a block. -/
theorem owns_shape {w : World} {B : Nat} {e : TypeId} {v : Value} {n : Nat} {xs : List Value} (h : w.ownsRow B e 1 v n xs) (hn : xs ≠ []) : ∃ g cap, v = .slice (some ⟨g, 0, none⟩) n cap := by
  rcases h.2 with ⟨_, h0⟩ | ⟨g, cap, cur, hv, _⟩
  · have := h.1
    rw [h0] at this
    exact absurd (List.eq_nil_of_length_eq_zero (by simpa using this)) hn
  · exact ⟨g, cap, hv⟩

theorem nosur (U : Int) (h1 : hiU U = false) (h2 : ¬ loU U = true) : U < 55296 ∨ 57344 ≤ U := by
  have n1 : ¬ (55296 ≤ U ∧ U < 56320) := fun h => by rw [(hiU_iff U).2 h] at h1; cases h1
  have n2 : ¬ (56320 ≤ U ∧ U < 57344) := fun h => h2 ((loU_iff U).2 h)
  omega

theorem below_draws' {B : Nat} {a w : World} (h : Below B a w) (n : Nat) : Below B a (w.drewN n) := below_draws h n

set_option maxRecDepth 100000 in
set_option maxHeartbeats 4000000 in
theorem cased_upper_some (b off cap : Nat) (zs : List Int) (w : World) (hz : zs.length ≤ 1000000) (hb : b < w.heap.size)
    (hr : ∀ u ∈ zs, 0 ≤ u ∧ u ≤ 65535)
    (hc : ∀ j, j < zs.length → w.cell? ⟨b, off + j, none⟩ = some (.int .u16 (zs.getD j 0))) (hT : Utf8Tabs 1 2 w) (hC : CaseVar 3 caseA w) :
    Calls Tryd.prog 10 #[.slice (some ⟨b, off, none⟩) zs.length cap, .bool true] w fun e w' => ∃ v, e = .returned v ∧ w'.ownsRow w.heap.size 27 1 v (casedL toUpperU zs).length (u16Vals (casedL toUpperU zs)) ∧ Below w.heap.size w w' := by
  obtain ⟨i0, hi, hz0, hz1, hz2⟩ := info_parts info27
  go_enter Tryd.func10, Tryd.ntmps10
  go_wp2_with fail
  go_loopg [5, 6] zs.length (fun g v i wr => ∃ k : Nat, k ≤ zs.length ∧ g = zs.length - k ∧ i = .int .i64 k ∧ ∃ acc : List Int, wr.ownsRow w.heap.size 27 1 v acc.length (u16Vals acc) ∧ acc ++ casedL toUpperU (zs.drop k) = casedL toUpperU zs ∧ acc.length ≤ 2 * k ∧ Below w.heap.size w wr)
  case atStart => exact ⟨0, Nat.zero_le _, rfl, rfl, [], World.ownsRow_nil _ _ _ _, by simp, by simp, Below.refl _ _⟩
  case round =>
    obtain ⟨k, hk, rfl, rfl, acc, hown, hacc0, hal, hnx⟩ := hrel
    have hacc := hideIt hacc0
    clear hacc0
    have hB : w.heap.size ≤ wr.heap.size := hnx.size
    have hTr := tabs_below hT hnx
    have hCr := case_below hC hnx
    by_cases hlt : k < zs.length
    · have D1 := hideIt (casedL_drop_one toUpperU zs k hlt)
      have D2 := hideIt (casedL_drop_pair toUpperU zs k)
      obtain ⟨U, hU⟩ : ∃ U, zs.getD k 0 = U := ⟨_, rfl⟩
      rw [hU] at D1 D2
      have hcx : wr.cell? ⟨b, off + k, none⟩ = some (.int .u16 U) := by rw [← hU]; exact (hnx.cell (by exact hb)).trans (hc k hlt)
      obtain ⟨hU0, hU1⟩ : 0 ≤ U ∧ U ≤ 65535 := hr U (by rw [← hU]; simp [List.getD, List.getElem?_eq_getElem hlt])
      clear hU
      obtain ⟨V, hV⟩ : ∃ V, zs.getD (k + 1) 0 = V := ⟨_, rfl⟩
      rw [hV] at D1 D2
      have hcy : k + 1 < zs.length → wr.cell? ⟨b, off + (k + 1), none⟩ = some (.int .u16 V) := fun h1 => by rw [← hV]; exact (hnx.cell (by exact hb)).trans (hc (k + 1) h1)
      have hVr : k + 1 < zs.length → 0 ≤ V ∧ V ≤ 65535 := fun h1 => hr V (by rw [← hV]; simp [List.getD, List.getElem?_eq_getElem h1])
      clear hV hT hC
      by_cases hh : hiU U = true ∧ k + 1 < zs.length ∧ loU V = true
      · obtain ⟨hh, hk1, hl⟩ := hh
        obtain ⟨hV0, hV1⟩ := hVr hk1
        have hcy1 := hcy hk1
        have E1 := hideIt (D2.out hk1 hh hl)
        obtain ⟨hhI1, hhI2⟩ := (hiU_iff U).1 hh
        obtain ⟨hlI1, hlI2⟩ := (loU_iff V).1 hl
        clear hcy hVr D1 D2
        go_upto_region 12 with (first | (go_at_call 20; refine (first_any _ _).mono ?_; rintro e w' ⟨rfl, rfl⟩) | (go_at_call 21; refine (second_any _ _).mono ?_; rintro e w' ⟨rfl, rfl⟩))
        have s1 : IntKind.i64.wrap ((k : Int) + 1) = (k : Int) + 1 := IntWalk.i64_in _ (by omega)
        have t1 : ((k : Int) + 1).toNat = k + 1 := by omega
        have b1 : (0 : Int) ≤ (k : Int) + 1 ∧ (k : Int) + 1 < zs.length := by omega
        go_quiet (fail)
        clear s1 t1 b1
        go_wp2_with fail
        refine (Tryd.unicode_ToUpper_laid (65536 + (U - 55296) * 1024 + V - 56320) _ (case_below hCr (below_draws (Below.refl _ _) _))).mono ?_
        rintro e w2 ⟨rfl, q, rfl⟩
        generalize toUpperU (65536 + (U - 55296) * 1024 + V - 56320) = x at E1 ⊢
        go_wp2_with fail
        refine (runits_any (Utf8.encode x) _ (by have := encode_size_le x; omega) (tabs_below hTr (below_draws (Below.refl _ _) _))).mono ?_
        rintro e w3 ⟨v2, rfl, own2, hb2, -⟩
        have hb3 : Below wr.heap.size wr w3 := (below_draws (Below.refl _ _) _).trans hb2
        rw [units_string] at own2
        have hown3 := owns_below hown hb3
        obtain ⟨g, cap2, rfl⟩ := owns_shape own2 (by simp [u16Vals, cp_ne])
        have hcl := cp_length x
        have hc2 := own2.cells (g := g) rfl
        have own2l : (u16Vals (cp x)).length = (cp x).length * 1 := by simp [u16Vals]
        have hsz3 := hb3.size
        clear own2 hb2 hown
        go_wp2_with (at_builtin; refine wpList_append_own _ rfl _ _ 22 rfl w.heap.size 27 i0 (.int .u16 0) 1 2 Tryd.underlying22 hi hz0 hz1 hz2 rfl (by decide) _ _ _ rfl hown3 ⟨g, 0, none⟩ (cp x).length cap2 (u16Vals (cp x)) rfl own2l hc2 ?c2 ?c3 ?c4 ?c5 ?_)
        case c2 => intro u hu; simp only [u16Vals, List.mem_map] at hu; obtain ⟨y, _, rfl⟩ := hu; rfl
        case c3 => unfold maxLen; omega
        case c4 => omega
        case c5 => omega
        intro v' w1 hown' hgrow _
        have hs1 := owns_step16 (zs := cp x) rfl hown'
        have hb1 : Below w.heap.size w w1 := (hnx.trans (hb3.mono hnx.size)).grown hgrow (by omega) (fun j hj => (hown3.lt j hj).1)
        clear hown' hgrow hown3 hc2
        go_wp2
        go_roundg (zs.length - (k + 2))
        case rel => exact ⟨k + 2, by omega, rfl, by go_num, _, hs1, by rw [← hacc.out, E1.out, List.append_assoc], by rw [List.length_append]; omega, hb1⟩
        case measure => omega
      · have E0 := D1.out hh
        clear D1 D2
        by_cases hh1 : hiU U = true
        · obtain ⟨hhI1, hhI2⟩ := (hiU_iff U).1 hh1
          by_cases hk1 : k + 1 < zs.length
          · have hl1 : loU V = false := by
              cases h : loU V with
              | false => rfl
              | true => exact absurd ⟨hh1, hk1, h⟩ hh
            have hcy1 := hcy hk1
            clear hcy hVr hh
            rw [if_pos (by omega)] at E0
            have E1 := hideIt E0
            clear E0 hTr hCr
            go_wp2_with (first | (go_at_call 20; refine (first_any _ _).mono ?_; rintro e w' ⟨rfl, rfl⟩) | (go_at_call 21; refine (second_any _ _).mono ?_; rintro e w' ⟨rfl, rfl⟩) | (at_builtin; refine wpList_append_own _ rfl _ _ 22 rfl w.heap.size 27 i0 (.int .u16 0) 1 2 Tryd.underlying22 hi hz0 hz1 hz2 rfl (by decide) _ _ _ rfl (hown.alloc _) ⟨wr.heap.size, 0, none⟩ 1 1 (u16Vals [U]) rfl rfl ?c1 ?c2 ?c3 ?c4 ?c5 ?_))
            case c1 => exact cells_new _ _ _
            case c2 => intro u hu; simp [u16Vals] at hu; subst hu; rfl
            case c3 => unfold maxLen; omega
            case c4 => omega
            case c5 => simp; omega
            intro v' w1 hown' hgrow _
            have hs1 := owns_step16 (zs := [U]) rfl hown'
            have hb1 := below_step hnx hB hown hgrow
            clear hown' hgrow hown
            go_wp2
            go_roundg (zs.length - (k + 1))
            case rel => exact ⟨k + 1, by omega, rfl, by go_num, _, hs1, by rw [← hacc.out, E1.out, List.append_assoc], by rw [List.length_append]; simp; omega, hb1⟩
            case measure => omega
          · clear hcy hVr hh
            rw [if_pos (by omega)] at E0
            have E1 := hideIt E0
            clear E0 hTr hCr
            go_wp2_with (first | (go_at_call 20; refine (first_any _ _).mono ?_; rintro e w' ⟨rfl, rfl⟩) | (go_at_call 21; refine (second_any _ _).mono ?_; rintro e w' ⟨rfl, rfl⟩) | (at_builtin; refine wpList_append_own _ rfl _ _ 22 rfl w.heap.size 27 i0 (.int .u16 0) 1 2 Tryd.underlying22 hi hz0 hz1 hz2 rfl (by decide) _ _ _ rfl (hown.alloc _) ⟨wr.heap.size, 0, none⟩ 1 1 (u16Vals [U]) rfl rfl ?c1 ?c2 ?c3 ?c4 ?c5 ?_))
            case c1 => exact cells_new _ _ _
            case c2 => intro u hu; simp [u16Vals] at hu; subst hu; rfl
            case c3 => unfold maxLen; omega
            case c4 => omega
            case c5 => simp; omega
            intro v' w1 hown' hgrow _
            have hs1 := owns_step16 (zs := [U]) rfl hown'
            have hb1 := below_step hnx hB hown hgrow
            clear hown' hgrow hown
            go_wp2
            go_roundg (zs.length - (k + 1))
            case rel => exact ⟨k + 1, by omega, rfl, by go_num, _, hs1, by rw [← hacc.out, E1.out, List.append_assoc], by rw [List.length_append]; simp; omega, hb1⟩
            case measure => omega
        · simp only [Bool.not_eq_true] at hh1
          by_cases hk1 : k + 1 < zs.length
          · have hcy1 := hcy hk1
            clear hcy hVr hh
            by_cases hl : loU U = true
            · obtain ⟨hlI1, hlI2⟩ := (loU_iff U).1 hl
              rw [if_pos (by omega)] at E0
              have E1 := hideIt E0
              clear E0 hTr hCr
              go_wp2_with (first | (go_at_call 20; refine (first_any _ _).mono ?_; rintro e w' ⟨rfl, rfl⟩) | (go_at_call 21; refine (second_any _ _).mono ?_; rintro e w' ⟨rfl, rfl⟩) | (at_builtin; refine wpList_append_own _ rfl _ _ 22 rfl w.heap.size 27 i0 (.int .u16 0) 1 2 Tryd.underlying22 hi hz0 hz1 hz2 rfl (by decide) _ _ _ rfl (hown.alloc _) ⟨wr.heap.size, 0, none⟩ 1 1 (u16Vals [U]) rfl rfl ?c1 ?c2 ?c3 ?c4 ?c5 ?_))
              case c1 => exact cells_new _ _ _
              case c2 => intro u hu; simp [u16Vals] at hu; subst hu; rfl
              case c3 => unfold maxLen; omega
              case c4 => omega
              case c5 => simp; omega
              intro v' w1 hown' hgrow _
              have hs1 := owns_step16 (zs := [U]) rfl hown'
              have hb1 := below_step hnx hB hown hgrow
              clear hown' hgrow hown
              go_wp2
              go_roundg (zs.length - (k + 1))
              case rel => exact ⟨k + 1, by omega, rfl, by go_num, _, hs1, by rw [← hacc.out, E1.out, List.append_assoc], by rw [List.length_append]; simp; omega, hb1⟩
              case measure => omega
            · have hns := nosur U hh1 hl
              rcases hns with hns | hns
              all_goals
                rw [if_neg (by omega)] at E0
                have E1 := hideIt E0
                clear E0
                go_wp2_with (first | (go_at_call 20; refine (first_any _ _).mono ?_; rintro e w' ⟨rfl, rfl⟩) | (go_at_call 21; refine (second_any _ _).mono ?_; rintro e w' ⟨rfl, rfl⟩))
                refine (Tryd.unicode_ToUpper_laid (U) _ (case_below hCr (Below.refl _ _))).mono ?_
                rintro e w2 ⟨rfl, q, rfl⟩
                generalize toUpperU (U) = x at E1 ⊢
                go_wp2_with fail
                refine (runits_any (Utf8.encode x) _ (by have := encode_size_le x; omega) (tabs_below hTr (below_draws (Below.refl _ _) _))).mono ?_
                rintro e w3 ⟨v2, rfl, own2, hb2, -⟩
                have hb3 : Below wr.heap.size wr w3 := (below_draws (Below.refl _ _) _).trans hb2
                rw [units_string] at own2
                have hown3 := owns_below hown hb3
                obtain ⟨g, cap2, rfl⟩ := owns_shape own2 (by simp [u16Vals, cp_ne])
                have hcl := cp_length x
                have hc2 := own2.cells (g := g) rfl
                have own2l : (u16Vals (cp x)).length = (cp x).length * 1 := by simp [u16Vals]
                have hsz3 := hb3.size
                clear own2 hb2 hown
                go_wp2_with (at_builtin; refine wpList_append_own _ rfl _ _ 22 rfl w.heap.size 27 i0 (.int .u16 0) 1 2 Tryd.underlying22 hi hz0 hz1 hz2 rfl (by decide) _ _ _ rfl hown3 ⟨g, 0, none⟩ (cp x).length cap2 (u16Vals (cp x)) rfl own2l hc2 ?c2 ?c3 ?c4 ?c5 ?_)
                case c2 => intro u hu; simp only [u16Vals, List.mem_map] at hu; obtain ⟨y, _, rfl⟩ := hu; rfl
                case c3 => unfold maxLen; omega
                case c4 => omega
                case c5 => omega
                intro v' w1 hown' hgrow _
                have hs1 := owns_step16 (zs := cp x) rfl hown'
                have hb1 : Below w.heap.size w w1 := (hnx.trans (hb3.mono hnx.size)).grown hgrow (by omega) (fun j hj => (hown3.lt j hj).1)
                clear hown' hgrow hown3 hc2
                go_wp2
                go_roundg (zs.length - (k + 1))
                case rel => exact ⟨k + 1, by omega, rfl, by go_num, _, hs1, by rw [← hacc.out, E1.out, List.append_assoc], by rw [List.length_append]; omega, hb1⟩
                case measure => omega
          · clear hcy hVr hh
            by_cases hl : loU U = true
            · obtain ⟨hlI1, hlI2⟩ := (loU_iff U).1 hl
              rw [if_pos (by omega)] at E0
              have E1 := hideIt E0
              clear E0 hTr hCr
              go_wp2_with (first | (go_at_call 20; refine (first_any _ _).mono ?_; rintro e w' ⟨rfl, rfl⟩) | (go_at_call 21; refine (second_any _ _).mono ?_; rintro e w' ⟨rfl, rfl⟩) | (at_builtin; refine wpList_append_own _ rfl _ _ 22 rfl w.heap.size 27 i0 (.int .u16 0) 1 2 Tryd.underlying22 hi hz0 hz1 hz2 rfl (by decide) _ _ _ rfl (hown.alloc _) ⟨wr.heap.size, 0, none⟩ 1 1 (u16Vals [U]) rfl rfl ?c1 ?c2 ?c3 ?c4 ?c5 ?_))
              case c1 => exact cells_new _ _ _
              case c2 => intro u hu; simp [u16Vals] at hu; subst hu; rfl
              case c3 => unfold maxLen; omega
              case c4 => omega
              case c5 => simp; omega
              intro v' w1 hown' hgrow _
              have hs1 := owns_step16 (zs := [U]) rfl hown'
              have hb1 := below_step hnx hB hown hgrow
              clear hown' hgrow hown
              go_wp2
              go_roundg (zs.length - (k + 1))
              case rel => exact ⟨k + 1, by omega, rfl, by go_num, _, hs1, by rw [← hacc.out, E1.out, List.append_assoc], by rw [List.length_append]; simp; omega, hb1⟩
              case measure => omega
            · have hns := nosur U hh1 hl
              rcases hns with hns | hns
              all_goals
                rw [if_neg (by omega)] at E0
                have E1 := hideIt E0
                clear E0
                go_wp2_with (first | (go_at_call 20; refine (first_any _ _).mono ?_; rintro e w' ⟨rfl, rfl⟩) | (go_at_call 21; refine (second_any _ _).mono ?_; rintro e w' ⟨rfl, rfl⟩))
                refine (Tryd.unicode_ToUpper_laid (U) _ (case_below hCr (Below.refl _ _))).mono ?_
                rintro e w2 ⟨rfl, q, rfl⟩
                generalize toUpperU (U) = x at E1 ⊢
                go_wp2_with fail
                refine (runits_any (Utf8.encode x) _ (by have := encode_size_le x; omega) (tabs_below hTr (below_draws (Below.refl _ _) _))).mono ?_
                rintro e w3 ⟨v2, rfl, own2, hb2, -⟩
                have hb3 : Below wr.heap.size wr w3 := (below_draws (Below.refl _ _) _).trans hb2
                rw [units_string] at own2
                have hown3 := owns_below hown hb3
                obtain ⟨g, cap2, rfl⟩ := owns_shape own2 (by simp [u16Vals, cp_ne])
                have hcl := cp_length x
                have hc2 := own2.cells (g := g) rfl
                have own2l : (u16Vals (cp x)).length = (cp x).length * 1 := by simp [u16Vals]
                have hsz3 := hb3.size
                clear own2 hb2 hown
                go_wp2_with (at_builtin; refine wpList_append_own _ rfl _ _ 22 rfl w.heap.size 27 i0 (.int .u16 0) 1 2 Tryd.underlying22 hi hz0 hz1 hz2 rfl (by decide) _ _ _ rfl hown3 ⟨g, 0, none⟩ (cp x).length cap2 (u16Vals (cp x)) rfl own2l hc2 ?c2 ?c3 ?c4 ?c5 ?_)
                case c2 => intro u hu; simp only [u16Vals, List.mem_map] at hu; obtain ⟨y, _, rfl⟩ := hu; rfl
                case c3 => unfold maxLen; omega
                case c4 => omega
                case c5 => omega
                intro v' w1 hown' hgrow _
                have hs1 := owns_step16 (zs := cp x) rfl hown'
                have hb1 : Below w.heap.size w w1 := (hnx.trans (hb3.mono hnx.size)).grown hgrow (by omega) (fun j hj => (hown3.lt j hj).1)
                clear hown' hgrow hown3 hc2
                go_wp2
                go_roundg (zs.length - (k + 1))
                case rel => exact ⟨k + 1, by omega, rfl, by go_num, _, hs1, by rw [← hacc.out, E1.out, List.append_assoc], by rw [List.length_append]; omega, hb1⟩
                case measure => omega
    · have hk' : ¬ ((k : Int) < zs.length) := by omega
      go_wp2_with fail
      go_ret
      have e := hacc.out
      rw [List.drop_eq_nil_of_le (by omega), show casedL toUpperU [] = [] from by rw [casedL], List.append_nil] at e
      rw [← e]
      exact ⟨_, rfl, hown, hnx⟩

set_option maxHeartbeats 400000 in
theorem cased_upper_none (a : Option Addr) (cap : Nat) (w : World) :
    Calls Tryd.prog 10 #[.slice a 0 cap, .bool true] w fun e w' => ∃ v, e = .returned v ∧ w'.ownsRow w.heap.size 27 1 v (casedL toUpperU []).length (u16Vals (casedL toUpperU [])) ∧ Below w.heap.size w w' := by
  go_enter Tryd.func10, Tryd.ntmps10
  go_wp2_with fail
  refine wp_loop_rounds 1 ?_
  rw [rounds_succ]
  go_wp2
  go_ret
  exact ⟨_, rfl, World.ownsRow_nil _ _ _ _, Below.refl _ _⟩

theorem cased_upper (v : Value) (zs : List Int) (w : World) (hz : zs.length ≤ 1000000) (hr : ∀ u ∈ zs, 0 ≤ u ∧ u ≤ 65535) (h : Reads16 w v zs) (hT : Utf8Tabs 1 2 w) (hC : CaseVar 3 caseA w) :
    Calls Tryd.prog 10 #[v, .bool true] w fun e w' => ∃ v, e = .returned v ∧ w'.ownsRow w.heap.size 27 1 v (casedL toUpperU zs).length (u16Vals (casedL toUpperU zs)) ∧ Below w.heap.size w w' := by
  rcases h with ⟨rfl, ad, cap, rfl⟩ | ⟨b, off, cap, rfl, hc⟩
  · exact cased_upper_none ad cap w
  · by_cases h0 : zs.length = 0
    · obtain rfl : zs = [] := List.eq_nil_of_length_eq_zero h0
      exact cased_upper_none _ cap w
    · exact cased_upper_some b off cap zs w hz (World.block_lt_of_cell? w _ (hc 0 (by omega))) hr hc hT hC

set_option maxRecDepth 100000 in
set_option maxHeartbeats 4000000 in
theorem cased_lower_some (b off cap : Nat) (zs : List Int) (w : World) (hz : zs.length ≤ 1000000) (hb : b < w.heap.size)
    (hr : ∀ u ∈ zs, 0 ≤ u ∧ u ≤ 65535)
    (hc : ∀ j, j < zs.length → w.cell? ⟨b, off + j, none⟩ = some (.int .u16 (zs.getD j 0))) (hT : Utf8Tabs 1 2 w) (hC : CaseVar 3 caseA w) :
    Calls Tryd.prog 10 #[.slice (some ⟨b, off, none⟩) zs.length cap, .bool false] w fun e w' => ∃ v, e = .returned v ∧ w'.ownsRow w.heap.size 27 1 v (casedL toLowerU zs).length (u16Vals (casedL toLowerU zs)) ∧ Below w.heap.size w w' := by
  obtain ⟨i0, hi, hz0, hz1, hz2⟩ := info_parts info27
  go_enter Tryd.func10, Tryd.ntmps10
  go_wp2_with fail
  go_loopg [5, 6] zs.length (fun g v i wr => ∃ k : Nat, k ≤ zs.length ∧ g = zs.length - k ∧ i = .int .i64 k ∧ ∃ acc : List Int, wr.ownsRow w.heap.size 27 1 v acc.length (u16Vals acc) ∧ acc ++ casedL toLowerU (zs.drop k) = casedL toLowerU zs ∧ acc.length ≤ 2 * k ∧ Below w.heap.size w wr)
  case atStart => exact ⟨0, Nat.zero_le _, rfl, rfl, [], World.ownsRow_nil _ _ _ _, by simp, by simp, Below.refl _ _⟩
  case round =>
    obtain ⟨k, hk, rfl, rfl, acc, hown, hacc0, hal, hnx⟩ := hrel
    have hacc := hideIt hacc0
    clear hacc0
    have hB : w.heap.size ≤ wr.heap.size := hnx.size
    have hTr := tabs_below hT hnx
    have hCr := case_below hC hnx
    by_cases hlt : k < zs.length
    · have D1 := hideIt (casedL_drop_one toLowerU zs k hlt)
      have D2 := hideIt (casedL_drop_pair toLowerU zs k)
      obtain ⟨U, hU⟩ : ∃ U, zs.getD k 0 = U := ⟨_, rfl⟩
      rw [hU] at D1 D2
      have hcx : wr.cell? ⟨b, off + k, none⟩ = some (.int .u16 U) := by rw [← hU]; exact (hnx.cell (by exact hb)).trans (hc k hlt)
      obtain ⟨hU0, hU1⟩ : 0 ≤ U ∧ U ≤ 65535 := hr U (by rw [← hU]; simp [List.getD, List.getElem?_eq_getElem hlt])
      clear hU
      obtain ⟨V, hV⟩ : ∃ V, zs.getD (k + 1) 0 = V := ⟨_, rfl⟩
      rw [hV] at D1 D2
      have hcy : k + 1 < zs.length → wr.cell? ⟨b, off + (k + 1), none⟩ = some (.int .u16 V) := fun h1 => by rw [← hV]; exact (hnx.cell (by exact hb)).trans (hc (k + 1) h1)
      have hVr : k + 1 < zs.length → 0 ≤ V ∧ V ≤ 65535 := fun h1 => hr V (by rw [← hV]; simp [List.getD, List.getElem?_eq_getElem h1])
      clear hV hT hC
      by_cases hh : hiU U = true ∧ k + 1 < zs.length ∧ loU V = true
      · obtain ⟨hh, hk1, hl⟩ := hh
        obtain ⟨hV0, hV1⟩ := hVr hk1
        have hcy1 := hcy hk1
        have E1 := hideIt (D2.out hk1 hh hl)
        obtain ⟨hhI1, hhI2⟩ := (hiU_iff U).1 hh
        obtain ⟨hlI1, hlI2⟩ := (loU_iff V).1 hl
        clear hcy hVr D1 D2
        go_upto_region 12 with (first | (go_at_call 20; refine (first_any _ _).mono ?_; rintro e w' ⟨rfl, rfl⟩) | (go_at_call 21; refine (second_any _ _).mono ?_; rintro e w' ⟨rfl, rfl⟩))
        have s1 : IntKind.i64.wrap ((k : Int) + 1) = (k : Int) + 1 := IntWalk.i64_in _ (by omega)
        have t1 : ((k : Int) + 1).toNat = k + 1 := by omega
        have b1 : (0 : Int) ≤ (k : Int) + 1 ∧ (k : Int) + 1 < zs.length := by omega
        go_quiet (fail)
        clear s1 t1 b1
        go_wp2_with fail
        refine (Tryd.unicode_ToLower_laid (65536 + (U - 55296) * 1024 + V - 56320) _ (case_below hCr (below_draws (Below.refl _ _) _))).mono ?_
        rintro e w2 ⟨rfl, q, rfl⟩
        generalize toLowerU (65536 + (U - 55296) * 1024 + V - 56320) = x at E1 ⊢
        go_wp2_with fail
        refine (runits_any (Utf8.encode x) _ (by have := encode_size_le x; omega) (tabs_below hTr (below_draws (Below.refl _ _) _))).mono ?_
        rintro e w3 ⟨v2, rfl, own2, hb2, -⟩
        have hb3 : Below wr.heap.size wr w3 := (below_draws (Below.refl _ _) _).trans hb2
        rw [units_string] at own2
        have hown3 := owns_below hown hb3
        obtain ⟨g, cap2, rfl⟩ := owns_shape own2 (by simp [u16Vals, cp_ne])
        have hcl := cp_length x
        have hc2 := own2.cells (g := g) rfl
        have own2l : (u16Vals (cp x)).length = (cp x).length * 1 := by simp [u16Vals]
        have hsz3 := hb3.size
        clear own2 hb2 hown
        go_wp2_with (at_builtin; refine wpList_append_own _ rfl _ _ 22 rfl w.heap.size 27 i0 (.int .u16 0) 1 2 Tryd.underlying22 hi hz0 hz1 hz2 rfl (by decide) _ _ _ rfl hown3 ⟨g, 0, none⟩ (cp x).length cap2 (u16Vals (cp x)) rfl own2l hc2 ?c2 ?c3 ?c4 ?c5 ?_)
        case c2 => intro u hu; simp only [u16Vals, List.mem_map] at hu; obtain ⟨y, _, rfl⟩ := hu; rfl
        case c3 => unfold maxLen; omega
        case c4 => omega
        case c5 => omega
        intro v' w1 hown' hgrow _
        have hs1 := owns_step16 (zs := cp x) rfl hown'
        have hb1 : Below w.heap.size w w1 := (hnx.trans (hb3.mono hnx.size)).grown hgrow (by omega) (fun j hj => (hown3.lt j hj).1)
        clear hown' hgrow hown3 hc2
        go_wp2
        go_roundg (zs.length - (k + 2))
        case rel => exact ⟨k + 2, by omega, rfl, by go_num, _, hs1, by rw [← hacc.out, E1.out, List.append_assoc], by rw [List.length_append]; omega, hb1⟩
        case measure => omega
      · have E0 := D1.out hh
        clear D1 D2
        by_cases hh1 : hiU U = true
        · obtain ⟨hhI1, hhI2⟩ := (hiU_iff U).1 hh1
          by_cases hk1 : k + 1 < zs.length
          · have hl1 : loU V = false := by
              cases h : loU V with
              | false => rfl
              | true => exact absurd ⟨hh1, hk1, h⟩ hh
            have hcy1 := hcy hk1
            clear hcy hVr hh
            rw [if_pos (by omega)] at E0
            have E1 := hideIt E0
            clear E0 hTr hCr
            go_wp2_with (first | (go_at_call 20; refine (first_any _ _).mono ?_; rintro e w' ⟨rfl, rfl⟩) | (go_at_call 21; refine (second_any _ _).mono ?_; rintro e w' ⟨rfl, rfl⟩) | (at_builtin; refine wpList_append_own _ rfl _ _ 22 rfl w.heap.size 27 i0 (.int .u16 0) 1 2 Tryd.underlying22 hi hz0 hz1 hz2 rfl (by decide) _ _ _ rfl (hown.alloc _) ⟨wr.heap.size, 0, none⟩ 1 1 (u16Vals [U]) rfl rfl ?c1 ?c2 ?c3 ?c4 ?c5 ?_))
            case c1 => exact cells_new _ _ _
            case c2 => intro u hu; simp [u16Vals] at hu; subst hu; rfl
            case c3 => unfold maxLen; omega
            case c4 => omega
            case c5 => simp; omega
            intro v' w1 hown' hgrow _
            have hs1 := owns_step16 (zs := [U]) rfl hown'
            have hb1 := below_step hnx hB hown hgrow
            clear hown' hgrow hown
            go_wp2
            go_roundg (zs.length - (k + 1))
            case rel => exact ⟨k + 1, by omega, rfl, by go_num, _, hs1, by rw [← hacc.out, E1.out, List.append_assoc], by rw [List.length_append]; simp; omega, hb1⟩
            case measure => omega
          · clear hcy hVr hh
            rw [if_pos (by omega)] at E0
            have E1 := hideIt E0
            clear E0 hTr hCr
            go_wp2_with (first | (go_at_call 20; refine (first_any _ _).mono ?_; rintro e w' ⟨rfl, rfl⟩) | (go_at_call 21; refine (second_any _ _).mono ?_; rintro e w' ⟨rfl, rfl⟩) | (at_builtin; refine wpList_append_own _ rfl _ _ 22 rfl w.heap.size 27 i0 (.int .u16 0) 1 2 Tryd.underlying22 hi hz0 hz1 hz2 rfl (by decide) _ _ _ rfl (hown.alloc _) ⟨wr.heap.size, 0, none⟩ 1 1 (u16Vals [U]) rfl rfl ?c1 ?c2 ?c3 ?c4 ?c5 ?_))
            case c1 => exact cells_new _ _ _
            case c2 => intro u hu; simp [u16Vals] at hu; subst hu; rfl
            case c3 => unfold maxLen; omega
            case c4 => omega
            case c5 => simp; omega
            intro v' w1 hown' hgrow _
            have hs1 := owns_step16 (zs := [U]) rfl hown'
            have hb1 := below_step hnx hB hown hgrow
            clear hown' hgrow hown
            go_wp2
            go_roundg (zs.length - (k + 1))
            case rel => exact ⟨k + 1, by omega, rfl, by go_num, _, hs1, by rw [← hacc.out, E1.out, List.append_assoc], by rw [List.length_append]; simp; omega, hb1⟩
            case measure => omega
        · simp only [Bool.not_eq_true] at hh1
          by_cases hk1 : k + 1 < zs.length
          · have hcy1 := hcy hk1
            clear hcy hVr hh
            by_cases hl : loU U = true
            · obtain ⟨hlI1, hlI2⟩ := (loU_iff U).1 hl
              rw [if_pos (by omega)] at E0
              have E1 := hideIt E0
              clear E0 hTr hCr
              go_wp2_with (first | (go_at_call 20; refine (first_any _ _).mono ?_; rintro e w' ⟨rfl, rfl⟩) | (go_at_call 21; refine (second_any _ _).mono ?_; rintro e w' ⟨rfl, rfl⟩) | (at_builtin; refine wpList_append_own _ rfl _ _ 22 rfl w.heap.size 27 i0 (.int .u16 0) 1 2 Tryd.underlying22 hi hz0 hz1 hz2 rfl (by decide) _ _ _ rfl (hown.alloc _) ⟨wr.heap.size, 0, none⟩ 1 1 (u16Vals [U]) rfl rfl ?c1 ?c2 ?c3 ?c4 ?c5 ?_))
              case c1 => exact cells_new _ _ _
              case c2 => intro u hu; simp [u16Vals] at hu; subst hu; rfl
              case c3 => unfold maxLen; omega
              case c4 => omega
              case c5 => simp; omega
              intro v' w1 hown' hgrow _
              have hs1 := owns_step16 (zs := [U]) rfl hown'
              have hb1 := below_step hnx hB hown hgrow
              clear hown' hgrow hown
              go_wp2
              go_roundg (zs.length - (k + 1))
              case rel => exact ⟨k + 1, by omega, rfl, by go_num, _, hs1, by rw [← hacc.out, E1.out, List.append_assoc], by rw [List.length_append]; simp; omega, hb1⟩
              case measure => omega
            · have hns := nosur U hh1 hl
              rcases hns with hns | hns
              all_goals
                rw [if_neg (by omega)] at E0
                have E1 := hideIt E0
                clear E0
                go_wp2_with (first | (go_at_call 20; refine (first_any _ _).mono ?_; rintro e w' ⟨rfl, rfl⟩) | (go_at_call 21; refine (second_any _ _).mono ?_; rintro e w' ⟨rfl, rfl⟩))
                refine (Tryd.unicode_ToLower_laid (U) _ (case_below hCr (Below.refl _ _))).mono ?_
                rintro e w2 ⟨rfl, q, rfl⟩
                generalize toLowerU (U) = x at E1 ⊢
                go_wp2_with fail
                refine (runits_any (Utf8.encode x) _ (by have := encode_size_le x; omega) (tabs_below hTr (below_draws (Below.refl _ _) _))).mono ?_
                rintro e w3 ⟨v2, rfl, own2, hb2, -⟩
                have hb3 : Below wr.heap.size wr w3 := (below_draws (Below.refl _ _) _).trans hb2
                rw [units_string] at own2
                have hown3 := owns_below hown hb3
                obtain ⟨g, cap2, rfl⟩ := owns_shape own2 (by simp [u16Vals, cp_ne])
                have hcl := cp_length x
                have hc2 := own2.cells (g := g) rfl
                have own2l : (u16Vals (cp x)).length = (cp x).length * 1 := by simp [u16Vals]
                have hsz3 := hb3.size
                clear own2 hb2 hown
                go_wp2_with (at_builtin; refine wpList_append_own _ rfl _ _ 22 rfl w.heap.size 27 i0 (.int .u16 0) 1 2 Tryd.underlying22 hi hz0 hz1 hz2 rfl (by decide) _ _ _ rfl hown3 ⟨g, 0, none⟩ (cp x).length cap2 (u16Vals (cp x)) rfl own2l hc2 ?c2 ?c3 ?c4 ?c5 ?_)
                case c2 => intro u hu; simp only [u16Vals, List.mem_map] at hu; obtain ⟨y, _, rfl⟩ := hu; rfl
                case c3 => unfold maxLen; omega
                case c4 => omega
                case c5 => omega
                intro v' w1 hown' hgrow _
                have hs1 := owns_step16 (zs := cp x) rfl hown'
                have hb1 : Below w.heap.size w w1 := (hnx.trans (hb3.mono hnx.size)).grown hgrow (by omega) (fun j hj => (hown3.lt j hj).1)
                clear hown' hgrow hown3 hc2
                go_wp2
                go_roundg (zs.length - (k + 1))
                case rel => exact ⟨k + 1, by omega, rfl, by go_num, _, hs1, by rw [← hacc.out, E1.out, List.append_assoc], by rw [List.length_append]; omega, hb1⟩
                case measure => omega
          · clear hcy hVr hh
            by_cases hl : loU U = true
            · obtain ⟨hlI1, hlI2⟩ := (loU_iff U).1 hl
              rw [if_pos (by omega)] at E0
              have E1 := hideIt E0
              clear E0 hTr hCr
              go_wp2_with (first | (go_at_call 20; refine (first_any _ _).mono ?_; rintro e w' ⟨rfl, rfl⟩) | (go_at_call 21; refine (second_any _ _).mono ?_; rintro e w' ⟨rfl, rfl⟩) | (at_builtin; refine wpList_append_own _ rfl _ _ 22 rfl w.heap.size 27 i0 (.int .u16 0) 1 2 Tryd.underlying22 hi hz0 hz1 hz2 rfl (by decide) _ _ _ rfl (hown.alloc _) ⟨wr.heap.size, 0, none⟩ 1 1 (u16Vals [U]) rfl rfl ?c1 ?c2 ?c3 ?c4 ?c5 ?_))
              case c1 => exact cells_new _ _ _
              case c2 => intro u hu; simp [u16Vals] at hu; subst hu; rfl
              case c3 => unfold maxLen; omega
              case c4 => omega
              case c5 => simp; omega
              intro v' w1 hown' hgrow _
              have hs1 := owns_step16 (zs := [U]) rfl hown'
              have hb1 := below_step hnx hB hown hgrow
              clear hown' hgrow hown
              go_wp2
              go_roundg (zs.length - (k + 1))
              case rel => exact ⟨k + 1, by omega, rfl, by go_num, _, hs1, by rw [← hacc.out, E1.out, List.append_assoc], by rw [List.length_append]; simp; omega, hb1⟩
              case measure => omega
            · have hns := nosur U hh1 hl
              rcases hns with hns | hns
              all_goals
                rw [if_neg (by omega)] at E0
                have E1 := hideIt E0
                clear E0
                go_wp2_with (first | (go_at_call 20; refine (first_any _ _).mono ?_; rintro e w' ⟨rfl, rfl⟩) | (go_at_call 21; refine (second_any _ _).mono ?_; rintro e w' ⟨rfl, rfl⟩))
                refine (Tryd.unicode_ToLower_laid (U) _ (case_below hCr (Below.refl _ _))).mono ?_
                rintro e w2 ⟨rfl, q, rfl⟩
                generalize toLowerU (U) = x at E1 ⊢
                go_wp2_with fail
                refine (runits_any (Utf8.encode x) _ (by have := encode_size_le x; omega) (tabs_below hTr (below_draws (Below.refl _ _) _))).mono ?_
                rintro e w3 ⟨v2, rfl, own2, hb2, -⟩
                have hb3 : Below wr.heap.size wr w3 := (below_draws (Below.refl _ _) _).trans hb2
                rw [units_string] at own2
                have hown3 := owns_below hown hb3
                obtain ⟨g, cap2, rfl⟩ := owns_shape own2 (by simp [u16Vals, cp_ne])
                have hcl := cp_length x
                have hc2 := own2.cells (g := g) rfl
                have own2l : (u16Vals (cp x)).length = (cp x).length * 1 := by simp [u16Vals]
                have hsz3 := hb3.size
                clear own2 hb2 hown
                go_wp2_with (at_builtin; refine wpList_append_own _ rfl _ _ 22 rfl w.heap.size 27 i0 (.int .u16 0) 1 2 Tryd.underlying22 hi hz0 hz1 hz2 rfl (by decide) _ _ _ rfl hown3 ⟨g, 0, none⟩ (cp x).length cap2 (u16Vals (cp x)) rfl own2l hc2 ?c2 ?c3 ?c4 ?c5 ?_)
                case c2 => intro u hu; simp only [u16Vals, List.mem_map] at hu; obtain ⟨y, _, rfl⟩ := hu; rfl
                case c3 => unfold maxLen; omega
                case c4 => omega
                case c5 => omega
                intro v' w1 hown' hgrow _
                have hs1 := owns_step16 (zs := cp x) rfl hown'
                have hb1 : Below w.heap.size w w1 := (hnx.trans (hb3.mono hnx.size)).grown hgrow (by omega) (fun j hj => (hown3.lt j hj).1)
                clear hown' hgrow hown3 hc2
                go_wp2
                go_roundg (zs.length - (k + 1))
                case rel => exact ⟨k + 1, by omega, rfl, by go_num, _, hs1, by rw [← hacc.out, E1.out, List.append_assoc], by rw [List.length_append]; omega, hb1⟩
                case measure => omega
    · have hk' : ¬ ((k : Int) < zs.length) := by omega
      go_wp2_with fail
      go_ret
      have e := hacc.out
      rw [List.drop_eq_nil_of_le (by omega), show casedL toLowerU [] = [] from by rw [casedL], List.append_nil] at e
      rw [← e]
      exact ⟨_, rfl, hown, hnx⟩

set_option maxHeartbeats 400000 in
theorem cased_lower_none (a : Option Addr) (cap : Nat) (w : World) :
    Calls Tryd.prog 10 #[.slice a 0 cap, .bool false] w fun e w' => ∃ v, e = .returned v ∧ w'.ownsRow w.heap.size 27 1 v (casedL toLowerU []).length (u16Vals (casedL toLowerU [])) ∧ Below w.heap.size w w' := by
  go_enter Tryd.func10, Tryd.ntmps10
  go_wp2_with fail
  refine wp_loop_rounds 1 ?_
  rw [rounds_succ]
  go_wp2
  go_ret
  exact ⟨_, rfl, World.ownsRow_nil _ _ _ _, Below.refl _ _⟩

theorem cased_lower (v : Value) (zs : List Int) (w : World) (hz : zs.length ≤ 1000000) (hr : ∀ u ∈ zs, 0 ≤ u ∧ u ≤ 65535) (h : Reads16 w v zs) (hT : Utf8Tabs 1 2 w) (hC : CaseVar 3 caseA w) :
    Calls Tryd.prog 10 #[v, .bool false] w fun e w' => ∃ v, e = .returned v ∧ w'.ownsRow w.heap.size 27 1 v (casedL toLowerU zs).length (u16Vals (casedL toLowerU zs)) ∧ Below w.heap.size w w' := by
  rcases h with ⟨rfl, ad, cap, rfl⟩ | ⟨b, off, cap, rfl, hc⟩
  · exact cased_lower_none ad cap w
  · by_cases h0 : zs.length = 0
    · obtain rfl : zs = [] := List.eq_nil_of_length_eq_zero h0
      exact cased_lower_none _ cap w
    · exact cased_lower_some b off cap zs w hz (World.block_lt_of_cell? w _ (hc 0 (by omega))) hr hc hT hC

end Go.Proofs.YtdijkobiffhgcaaDoor.Un
