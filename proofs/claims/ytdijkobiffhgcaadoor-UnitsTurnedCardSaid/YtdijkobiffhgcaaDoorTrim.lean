/-
  Trim, the program's and the reference's. Conditions: at most 1000000 units, each from 0 to 65535; unicode.Zs as it is laid.
-/
import Derived.Test.YtdijkobiffhgcaaDoorWhite
namespace Go.Proofs.YtdijkobiffhgcaaDoor.Un
open Go.RowKit Go.Lib

/-- the ends between which nothing is white at the outside. -/
def Trimmed (zs : List Int) (i k : Nat) : Prop :=
  (∀ j, j < i → whiteU (zs.getD j 0) = true) ∧ (i = zs.length ∨ (i < zs.length ∧ whiteU (zs.getD i 0) = false)) ∧ i ≤ k ∧ k ≤ zs.length ∧
  (∀ j, k ≤ j → j < zs.length → whiteU (zs.getD j 0) = true) ∧ (k = i ∨ (i < k ∧ whiteU (zs.getD (k - 1) 0) = false))

theorem Trimmed.one {zs : List Int} {i k i' k' : Nat} (h : Trimmed zs i k) (h' : Trimmed zs i' k') : i = i' ∧ k = k' := by
  obtain ⟨a, b, c, d, e, f⟩ := h
  obtain ⟨a', b', c', d', e', f'⟩ := h'
  have hi : i = i' := by
    rcases Nat.lt_trichotomy i i' with h | h | h
    · rcases b with b | ⟨_, b⟩
      · omega
      · rw [a' i h] at b; cases b
    · exact h
    · rcases b' with b | ⟨_, b⟩
      · omega
      · rw [a i' h] at b; cases b
  subst hi
  refine ⟨rfl, ?_⟩
  rcases Nat.lt_trichotomy k k' with h | h | h
  · rcases f' with f | ⟨_, f⟩
    · omega
    · rw [e (k' - 1) (by omega) (by omega)] at f; cases f
  · exact h
  · rcases f with f | ⟨_, f⟩
    · omega
    · rw [e' (k - 1) (by omega) (by omega)] at f; cases f

theorem packL_take (zs : List Int) (k : Nat) : (packL zs).take (2 * k) = packL (zs.take k) := by
  have h : zs = zs.take k ++ zs.drop k := (List.take_append_drop k zs).symm
  by_cases hk : k ≤ zs.length
  · conv => lhs; rw [h]
    rw [packL_append, List.take_append_of_le_length (by rw [packL_length, List.length_take]; omega), List.take_of_length_le (by rw [packL_length, List.length_take]; omega)]
  · rw [List.take_of_length_le (by rw [packL_length]; omega), List.take_of_length_le (by omega)]
theorem packL_drop (zs : List Int) (k : Nat) : (packL zs).drop (2 * k) = packL (zs.drop k) := by
  have h : zs = zs.take k ++ zs.drop k := (List.take_append_drop k zs).symm
  by_cases hk : k ≤ zs.length
  · conv => lhs; rw [h]
    rw [packL_append, List.drop_append_of_le_length (by rw [packL_length, List.length_take]; omega), List.drop_of_length_le (by rw [packL_length, List.length_take]; omega), List.nil_append]
  · rw [List.drop_of_length_le (by rw [packL_length]; omega), List.drop_of_length_le (by omega)]
    rfl

theorem extract_pack (zs : List Int) (i k : Nat) : (packS zs).extract (2 * i) (2 * k) = packS ((zs.take k).drop i) := by
  apply ByteArray.ext
  apply Array.toList_inj.1
  rw [extract_data]
  show ((packL zs).drop (2 * i)).take (2 * k - 2 * i) = packL ((zs.take k).drop i)
  rw [packL_drop, show 2 * k - 2 * i = 2 * (k - i) by omega, packL_take, List.drop_take]

set_option maxHeartbeats 400000 in
theorem len_any (zs : List Int) (w : World) (hz : zs.length ≤ 100000000) :
    Calls Tryd.prog 38 #[.string (packS zs)] w fun e w' => e = .returned (.int .i64 zs.length) ∧ w = w' := by
  have hsz := packS_size zs
  have hszI : ((packS zs).size : Int) = 2 * (zs.length : Int) := by omega
  have hdiv : 2 * (zs.length : Int) / 2 = zs.length := by omega
  clear hsz
  go_enter Tryd.func38, Tryd.ntmps38
  go_wp2
  go_ret
  exact ⟨rfl, rfl⟩

set_option maxHeartbeats 400000 in
theorem sub_any (zs : List Int) (i k : Nat) (w : World) (hz : zs.length ≤ 100000000) (hik : i ≤ k) (hk : k ≤ zs.length) :
    Calls Tryd.prog 41 #[.string (packS zs), .int .i64 i, .int .i64 k] w fun e w' => e = .returned (.string (packS ((zs.take k).drop i))) ∧ w = w' := by
  have hsz := packS_size zs
  have hE := hideIt (extract_pack zs i k)
  obtain ⟨s, hs⟩ : ∃ s, packS zs = s := ⟨_, rfl⟩
  rw [hs] at hsz ⊢
  have hE' : Hid (s.extract (2 * i) (2 * k) = packS ((zs.take k).drop i)) := by rw [← hs]; exact hE
  clear hs hE
  have hsl : s.size ≤ 200000000 := by omega
  have hsk : 2 * k ≤ s.size := by omega
  clear hsz
  go_enter Tryd.func41, Tryd.ntmps41
  go_wp2
  go_ret
  exact ⟨by rw [← hE'.out]; rfl, rfl⟩

set_option maxHeartbeats 4000000 in
theorem strtrim_any (zs : List Int) (w : World) (hz : zs.length ≤ 1000000) (hr : ∀ u ∈ zs, 0 ≤ u ∧ u ≤ 65535) (hZ : RVar 0 zsT w) :
    Calls Tryd.prog 29 #[.string (packS zs)] w fun e w' => ∃ i k, Trimmed zs i k ∧ e = .returned (.string (packS ((zs.take k).drop i))) ∧ Below w.heap.size w w' := by
  have hr' : ∀ i, i < zs.length → 0 ≤ zs.getD i 0 ∧ zs.getD i 0 ≤ 65535 := fun i hi => hr _ (by simp [List.getD, List.getElem?_eq_getElem hi])
  go_enter Tryd.func29, Tryd.ntmps29
  go_wp2_with (first | (go_at_call 38; refine (len_any zs _ (by omega)).mono ?_; rintro e w' ⟨rfl, rfl⟩))
  go_loopw [3] (fun a wr => ∃ i : Nat, i ≤ zs.length ∧ a = .int .i64 i ∧ (∀ j, j < i → whiteU (zs.getD j 0) = true) ∧ Below w.heap.size w wr) (fun a _ => zs.length - (RowKit.intOf a).toNat)
  case atStart => exact ⟨0, Nat.zero_le _, rfl, fun j hj => absurd hj (by omega), Below.refl _ _⟩
  case round =>
    obtain ⟨i, hi, rfl, hwh0, hnx⟩ := hrel
    have hwh := hideIt hwh0
    clear hwh0
    have hZr := zs_below hZ hnx
    have hB : w.heap.size ≤ wr.heap.size := hnx.size
    by_cases hlt : i < zs.length
    · have cA := at_any zs i wr (by omega) hr hlt
      obtain ⟨hU0, hU1⟩ := hr' i hlt
      obtain ⟨U, hU⟩ : ∃ U, zs.getD i 0 = U := ⟨_, rfl⟩
      rw [hU] at cA hU0 hU1
      have HU := hideIt hU
      clear hU
      by_cases hW : whiteU U = true
      · go_wp2_with (first | (go_at_call 40; refine cA.mono ?_; rintro e w2 ⟨rfl, q, rfl⟩) | (go_at_call 39; refine (white_any U _ hU0 hU1 (zs_below hZr (below_draws (Below.refl _ _) _))).mono ?_; rintro e w3 ⟨rfl, hb3⟩))
        go_roundw
        case rel =>
          refine ⟨i + 1, by omega, by go_num, ?_, hnx.trans (((below_draws (Below.refl _ _) q).trans hb3).mono hB)⟩
          intro j hj
          by_cases hji : j = i
          · subst hji; rw [HU.out]; exact hW
          · exact hwh.out j (by omega)
        case measure => simp [RowKit.intOf]; omega
      · simp only [Bool.not_eq_true] at hW
        go_wp2_with (first | (go_at_call 40; refine cA.mono ?_; rintro e w2 ⟨rfl, q, rfl⟩) | (go_at_call 39; refine (white_any U _ hU0 hU1 (zs_below hZr (below_draws (Below.refl _ _) _))).mono ?_; rintro e w3 ⟨rfl, hb3⟩))
        have hb0 : Below w.heap.size w w3 := hnx.trans (((below_draws (Below.refl _ _) q).trans hb3).mono hB)
        clear hb3 hnx cA hZr hB
        go_loopw [4] (fun a wx => ∃ k : Nat, i ≤ k ∧ k ≤ zs.length ∧ a = .int .i64 k ∧ (∀ j, k ≤ j → j < zs.length → whiteU (zs.getD j 0) = true) ∧ Below w.heap.size w wx) (fun a _ => (RowKit.intOf a).toNat)
        case atStart => exact ⟨zs.length, by omega, Nat.le_refl _, rfl, fun j h1 h2 => absurd h1 (by omega), hb0⟩
        case round =>
          obtain ⟨k, hik, hk, rfl, hwk0, hnx⟩ := hrel
          have hwk := hideIt hwk0
          clear hwk0 hb0
          have hZr := zs_below hZ hnx
          have hB := hnx.size
          by_cases hki : i < k
          · have cA := at_any zs (k - 1) wr (by omega) hr (by omega)
            rw [show (((k - 1 : Nat) : Int)) = (k : Int) - 1 by omega] at cA
            obtain ⟨hV0, hV1⟩ := hr' (k - 1) (by omega)
            obtain ⟨V, hV⟩ : ∃ V, zs.getD (k - 1) 0 = V := ⟨_, rfl⟩
            rw [hV] at cA hV0 hV1
            have HV := hideIt hV
            clear hV
            by_cases hWV : whiteU V = true
            · go_wp2_with (first | (go_at_call 40; refine cA.mono ?_; rintro e w4 ⟨rfl, q4, rfl⟩) | (go_at_call 39; refine (white_any V _ hV0 hV1 (zs_below hZr (below_draws (Below.refl _ _) _))).mono ?_; rintro e w5 ⟨rfl, hb5⟩))
              go_roundw
              case rel =>
                refine ⟨k - 1, by omega, by omega, by go_num, ?_, hnx.trans (((below_draws (Below.refl _ _) q4).trans hb5).mono hB)⟩
                intro j h1 h2
                by_cases hjk : j = k - 1
                · subst hjk; rw [HV.out]; exact hWV
                · exact hwk.out j (by omega) h2
              case measure => simp [RowKit.intOf]; omega
            · simp only [Bool.not_eq_true] at hWV
              go_wp2_with (first | (go_at_call 40; refine cA.mono ?_; rintro e w4 ⟨rfl, q4, rfl⟩) | (go_at_call 39; refine (white_any V _ hV0 hV1 (zs_below hZr (below_draws (Below.refl _ _) _))).mono ?_; rintro e w5 ⟨rfl, hb5⟩) | (go_at_call 41; refine (sub_any zs i k _ (by omega) hik hk).mono ?_; rintro e w6 ⟨rfl, rfl⟩))
              go_ret
              exact ⟨i, k, ⟨hwh.out, .inr ⟨hlt, by rw [HU.out]; exact hW⟩, hik, hk, hwk.out, .inr ⟨hki, by rw [HV.out]; exact hWV⟩⟩, rfl, hnx.trans (((below_draws (Below.refl _ _) q4).trans hb5).mono hB)⟩
          · obtain rfl : k = i := by omega
            have hkk : ¬ ((k : Int) < k) := by omega
            go_wp2_with (first | (go_at_call 41; refine (sub_any zs k k _ (by omega) hik hk).mono ?_; rintro e w6 ⟨rfl, rfl⟩))
            go_ret
            exact ⟨k, k, ⟨hwh.out, .inr ⟨hlt, by rw [HU.out]; exact hW⟩, hik, hk, hwk.out, .inl rfl⟩, by rw [show (zs.take k).drop k = ([] : List Int) from by simp]; rfl, hnx⟩
    · obtain rfl : i = zs.length := by omega
      have hkk : ¬ ((zs.length : Int) < zs.length) := by omega
      go_wp2_with fail
      refine wp_loop_rounds 1 ?_
      rw [rounds_succ]
      go_wp2_with (first | (go_at_call 41; refine (sub_any zs zs.length zs.length _ (by omega) (Nat.le_refl _) (Nat.le_refl _)).mono ?_; rintro e w6 ⟨rfl, rfl⟩))
      go_ret
      exact ⟨zs.length, zs.length, ⟨hwh.out, .inl rfl, Nat.le_refl _, Nat.le_refl _, fun j h1 h2 => absurd h1 (by omega), .inl rfl⟩, by rw [show (zs.take zs.length).drop zs.length = ([] : List Int) from by simp]; rfl, hnx⟩

theorem reads_part {w : World} {b off c : Nat} {zs : List Int} {i k : Nat} (hik : i ≤ k) (hk : k ≤ zs.length) (hc : ∀ j, j < zs.length → w.cell? ⟨b, off + j, none⟩ = some (.int .u16 (zs.getD j 0))) :
    Reads16 w (.slice (some ⟨b, off + i, none⟩) (k - i) c) ((zs.take k).drop i) := by
  have hl : ((zs.take k).drop i).length = k - i := by rw [List.length_drop, List.length_take]; omega
  refine .inr ⟨b, off + i, c, by rw [hl], fun j hj => ?_⟩
  rw [hl] at hj
  rw [Nat.add_assoc, hc (i + j) (by omega)]
  simp only [List.getD, List.getElem?_drop]
  rw [List.getElem?_take_of_lt (by omega)]

theorem reads_empty {w : World} {ad : Option Addr} {c : Nat} {l : List Int} (h : l = []) : Reads16 w (.slice ad 0 c) l := .inl ⟨h, ad, c, rfl⟩

def TrimEnds (zs : List Int) (w : World) (e : Ending) (w' : World) : Prop := ∃ i k v, Trimmed zs i k ∧ e = .returned v ∧ Reads16 w' v ((zs.take k).drop i) ∧ Below w.heap.size w w'

set_option maxHeartbeats 4000000 in
/-- the reference's: it hands back a part of its argument. -/
theorem rtrim_some (b off cap : Nat) (zs : List Int) (w : World) (hz : zs.length ≤ 1000000) (hcap : zs.length ≤ cap) (hb : b < w.heap.size) (hr : ∀ u ∈ zs, 0 ≤ u ∧ u ≤ 65535) (hZ : RVar 0 zsT w)
    (hc : ∀ j, j < zs.length → w.cell? ⟨b, off + j, none⟩ = some (.int .u16 (zs.getD j 0))) :
    Calls Tryd.prog 13 #[.slice (some ⟨b, off, none⟩) zs.length cap] w (TrimEnds zs w) := by
  have hr' : ∀ i, i < zs.length → 0 ≤ zs.getD i 0 ∧ zs.getD i 0 ≤ 65535 := fun i hi => hr _ (by simp [List.getD, List.getElem?_eq_getElem hi])
  go_enter Tryd.func13, Tryd.ntmps13
  go_wp2_with fail
  go_loopw [3] (fun a wr => ∃ i : Nat, i ≤ zs.length ∧ a = .int .i64 i ∧ (∀ j, j < i → whiteU (zs.getD j 0) = true) ∧ Below w.heap.size w wr) (fun a _ => zs.length - (RowKit.intOf a).toNat)
  case atStart => exact ⟨0, Nat.zero_le _, rfl, fun j hj => absurd hj (by omega), Below.refl _ _⟩
  case round =>
    obtain ⟨i, hi, rfl, hwh0, hnx⟩ := hrel
    have hwh := hideIt hwh0
    clear hwh0
    have hZr := zs_below hZ hnx
    have hB : w.heap.size ≤ wr.heap.size := hnx.size
    by_cases hlt : i < zs.length
    · obtain ⟨hU0, hU1⟩ := hr' i hlt
      have hcx : wr.cell? ⟨b, off + i, none⟩ = some (.int .u16 (zs.getD i 0)) := (hnx.cell (by exact hb)).trans (hc i hlt)
      obtain ⟨U, hU⟩ : ∃ U, zs.getD i 0 = U := ⟨_, rfl⟩
      rw [hU] at hcx hU0 hU1
      have HU := hideIt hU
      clear hU
      by_cases hW : whiteU U = true
      · go_wp2_with (first | (go_at_call 28; refine (rwhite_any U _ hU0 hU1 hZr).mono ?_; rintro e w3 ⟨rfl, hb3⟩))
        go_roundw
        case rel =>
          refine ⟨i + 1, by omega, by go_num, ?_, hnx.trans (hb3.mono hB)⟩
          intro j hj
          by_cases hji : j = i
          · subst hji; rw [HU.out]; exact hW
          · exact hwh.out j (by omega)
        case measure => simp [RowKit.intOf]; omega
      · simp only [Bool.not_eq_true] at hW
        go_wp2_with (first | (go_at_call 28; refine (rwhite_any U _ hU0 hU1 hZr).mono ?_; rintro e w3 ⟨rfl, hb3⟩))
        have hb0 : Below w.heap.size w w3 := hnx.trans (hb3.mono hB)
        clear hb3 hnx hZr hB hcx
        go_loopw [4] (fun a wx => ∃ k : Nat, i ≤ k ∧ k ≤ zs.length ∧ a = .int .i64 k ∧ (∀ j, k ≤ j → j < zs.length → whiteU (zs.getD j 0) = true) ∧ Below w.heap.size w wx) (fun a _ => (RowKit.intOf a).toNat)
        case atStart => exact ⟨zs.length, by omega, Nat.le_refl _, rfl, fun j h1 h2 => absurd h1 (by omega), hb0⟩
        case round =>
          obtain ⟨k, hik, hk, rfl, hwk0, hnx⟩ := hrel
          have hwk := hideIt hwk0
          clear hwk0 hb0
          have hZr := zs_below hZ hnx
          have hB := hnx.size
          by_cases hki : i < k
          · obtain ⟨hV0, hV1⟩ := hr' (k - 1) (by omega)
            have hcy : wr.cell? ⟨b, off + (k - 1), none⟩ = some (.int .u16 (zs.getD (k - 1) 0)) := (hnx.cell (by exact hb)).trans (hc (k - 1) (by omega))
            obtain ⟨V, hV⟩ : ∃ V, zs.getD (k - 1) 0 = V := ⟨_, rfl⟩
            rw [hV] at hcy hV0 hV1
            have HV := hideIt hV
            have tk : ((k : Int) - 1).toNat = k - 1 := by omega
            clear hV
            by_cases hWV : whiteU V = true
            · go_wp2_with (first | (go_at_call 28; refine (rwhite_any V _ hV0 hV1 hZr).mono ?_; rintro e w5 ⟨rfl, hb5⟩))
              go_roundw
              case rel =>
                refine ⟨k - 1, by omega, by omega, by go_num, ?_, hnx.trans (hb5.mono hB)⟩
                intro j h1 h2
                by_cases hjk : j = k - 1
                · subst hjk; rw [HV.out]; exact hWV
                · exact hwk.out j (by omega) h2
              case measure => simp [RowKit.intOf]; omega
            · simp only [Bool.not_eq_true] at hWV
              have hci : ¬ cap = i := by omega
              go_wp2_with (first | (go_at_call 28; refine (rwhite_any V _ hV0 hV1 hZr).mono ?_; rintro e w5 ⟨rfl, hb5⟩))
              go_ret
              have hbE := hnx.trans (hb5.mono hB)
              exact ⟨i, k, _, ⟨hwh.out, .inr ⟨hlt, by rw [HU.out]; exact hW⟩, hik, hk, hwk.out, .inr ⟨hki, by rw [HV.out]; exact hWV⟩⟩, rfl, reads_part hik hk (fun j hj => (hbE.cell (by exact hb)).trans (hc j hj)), hbE⟩
          · obtain rfl : k = i := by omega
            have hkk : ¬ ((k : Int) < k) := by omega
            go_wp2_with fail
            go_ret
            exact ⟨k, k, _, ⟨hwh.out, .inr ⟨hlt, by rw [HU.out]; exact hW⟩, hik, hk, hwk.out, .inl rfl⟩, rfl, reads_empty (by simp), hnx⟩
    · obtain rfl : i = zs.length := by omega
      have hkk : ¬ ((zs.length : Int) < zs.length) := by omega
      go_wp2_with fail
      refine wp_loop_rounds 1 ?_
      rw [rounds_succ]
      go_wp2_with fail
      all_goals go_ret
      all_goals exact ⟨zs.length, zs.length, _, ⟨hwh.out, .inl rfl, Nat.le_refl _, Nat.le_refl _, fun j h1 h2 => absurd h1 (by omega), .inl rfl⟩, rfl, reads_empty (by simp), hnx⟩

set_option maxHeartbeats 400000 in
theorem rtrim_nil (w : World) : Calls Tryd.prog 13 #[.slice none 0 0] w (TrimEnds [] w) := by
  go_enter Tryd.func13, Tryd.ntmps13
  go_wp2_with fail
  refine wp_loop_rounds 1 ?_
  rw [rounds_succ]
  go_wp2_with fail
  refine wp_loop_rounds 1 ?_
  rw [rounds_succ]
  go_wp2_with fail
  go_ret
  exact ⟨0, 0, _, ⟨fun j h => absurd h (by omega), .inl rfl, Nat.le_refl _, Nat.le_refl _, fun j h1 h2 => absurd h2 (by simp), .inl rfl⟩, rfl, reads_empty (by simp), Below.refl _ _⟩

/-- of a row that the call owns (nil, or at its head). -/
theorem rtrim_owned (v : Value) (B : Nat) (zs : List Int) (w : World) (hz : zs.length ≤ 1000000) (hr : ∀ u ∈ zs, 0 ≤ u ∧ u ≤ 65535) (hZ : RVar 0 zsT w) (h : w.ownsRow B 27 1 v zs.length (u16Vals zs)) :
    Calls Tryd.prog 13 #[v] w (TrimEnds zs w) := by
  rcases h.2 with ⟨rfl, h0⟩ | ⟨g, cap, cur, rfl, _, hg, hcap, _⟩
  · obtain rfl : zs = [] := List.eq_nil_of_length_eq_zero h0
    exact rtrim_nil w
  · refine rtrim_some g 0 cap zs w hz hcap (Array.getElem?_eq_some_iff.1 hg).1 hr hZ (fun j hj => ?_)
    have := h.cellAt j (by omega)
    rw [Nat.zero_add, this]
    simp [u16Vals, List.getD, List.getElem?_eq_getElem hj]

end Go.Proofs.YtdijkobiffhgcaaDoor.Un
