/-
  The program's Map by unicode.ToUpper and by unicode.ToLower; Upper, Lower. Conditions: at most 4000000 units, each from 0 to 65535; the tables of unicode/utf8 and unicode.CaseRanges as they are laid.
-/
import Derived.Test.YtdijkobiffhgcaaDoorOf
import Derived.Shelf.Strings.CaseAny
namespace Go.Proofs.YtdijkobiffhgcaaDoor.Un
open Go.RowKit Go.Lib

theorem case_below {w w' : World} (h : CaseVar 3 caseA w) (hb : Below w.heap.size w w') : CaseVar 3 caseA w' := by
  obtain ⟨R, oR, cap, h1, h2⟩ := h
  exact ⟨R, oR, cap, cell_later hb h1, fun i hi => by
    obtain ⟨a, b, c, d, e⟩ := h2 i hi
    exact ⟨cell_later hb a, cell_later hb b, cell_later hb c, cell_later hb d, cell_later hb e⟩⟩

theorem strCells_take (t : ByteArray) (K : Nat) : strCells (t.extract 0 K) = byteCells (t.data.toList.take K) := by
  rw [strCells_eq, extract_data]
  simp

theorem owns_bytes {w : World} {B : Nat} {v : Value} {acc l : List UInt8} {m : Nat} (hm : l.length = m)
    (h : w.ownsRow B 5 1 v (acc.length + m) (byteCells acc ++ byteCells l)) : w.ownsRow B 5 1 v (acc ++ l).length (byteCells (acc ++ l)) := by
  rw [byteCells_append, List.length_append, hm]
  exact h

set_option maxRecDepth 100000 in
set_option maxHeartbeats 2000000 in
theorem map_upper (zs : List Int) (w : World) (hz : zs.length ≤ 1000000) (hr : ∀ u ∈ zs, 0 ≤ u ∧ u ≤ 65535) (hT : Utf8Tabs 1 2 w) (hC : CaseVar 3 caseA w) :
    Calls Tryd.prog 34 #[.string (packS zs), .func (.func 22) #[] #[]] w fun e w' => e = .returned (.string (packS (unitsL (mapL toUpperU (textL zs))))) ∧ Below w.heap.size w w' := by
  obtain ⟨i0, hi, hz0, hz1, hz2⟩ := info_parts info5
  have cS := string_any zs w (by omega) hr
  have htl : (textL zs).length ≤ 4 * zs.length := by rw [textL, toBytes_length]; exact textZ_length zs
  obtain ⟨T, hTx⟩ : ∃ T : ByteArray, (⟨(textL zs).toArray⟩ : ByteArray) = T := ⟨_, rfl⟩
  have hTl : Hid (T.data.toList = textL zs) := by rw [← hTx]; rfl
  have hTs : T.size ≤ 4000000 := by rw [size_eq, hTl.out]; omega
  rw [hTx] at cS
  rw [← hTl.out]
  clear htl hTx
  go_enter Tryd.func34, Tryd.ntmps34
  go_wp2_with fail
  refine cS.mono ?_
  rintro e w0 ⟨rfl, hb0⟩
  clear cS
  have hT0 := tabs_below hT hb0
  have hC0 := case_below hC hb0
  have hsz0 := hb0.size
  go_wp2_with fail
  go_loopw [5, 6] (fun v s0 wr => ∃ t : ByteArray, s0 = .string t ∧ t.size ≤ T.size ∧ ∃ acc : List UInt8, wr.ownsRow w0.heap.size 5 1 v acc.length (byteCells acc) ∧ acc ++ mapL toUpperU t.data.toList = mapL toUpperU T.data.toList ∧ acc.length + 4 * t.size ≤ 4 * T.size ∧ Below w0.heap.size w0 wr)
    (fun _ s0 _ => strLen s0)
  case atStart => exact ⟨T, rfl, Nat.le_refl _, [], World.ownsRow_nil _ _ _ _, rfl, by simp, Below.refl _ _⟩
  case round =>
    obtain ⟨t, rfl, ht, acc, hown, hacc0, hal, hnx⟩ := hrel
    have hacc := hideIt hacc0
    clear hacc0
    have hB : w0.heap.size ≤ wr.heap.size := hnx.size
    have hTr := tabs_below hT0 hnx
    have hCr := case_below hC0 hnx
    by_cases hlt : t.size = 0
    · have hlt0 : (t.size : Int) ≤ 0 := by omega
      have e := hacc.out
      rw [show t.data.toList = [] from List.eq_nil_of_length_eq_zero (by simpa using hlt), mapL_nil, List.append_nil] at e
      have E := hideIt e
      have kc := run_convert_row wr 32 9 5 Tryd.underlying32 Tryd.underlying5 Tryd.underlying9 hown
      have cO := of_any ⟨acc.toArray⟩ wr (by show acc.toArray.size ≤ _; rw [List.size_toArray]; omega) hTr
      rw [show (⟨acc.toArray⟩ : ByteArray).data.toList = acc from rfl] at cO
      clear e hTr hCr hT hC hT0 hC0
      go_wp2_with fail
      refine cO.mono ?_
      rintro e w1 ⟨rfl, hb1⟩
      go_wp2_with fail
      go_ret
      refine ⟨?_, hb0.trans ((hnx.trans (hb1.mono hB)).mono hsz0)⟩
      rw [← E.out]
      rfl
    · have hlt0 : (0 : Int) < (t.size : Int) := by omega
      have hne : t.data.toList ≠ [] := fun h => hlt (by have := congrArg List.length h; simpa using this)
      obtain ⟨R, hR⟩ : ∃ R, (nextL t.data.toList).1 = R := ⟨_, rfl⟩
      obtain ⟨K, hK⟩ : ∃ K, (nextL t.data.toList).2 = K := ⟨_, rfl⟩
      have hw := nextL_width _ hne
      have hrr := nextL_rune t.data.toList
      have hst := mapL_step toUpperU _ hne
      have cN := next_any t wr hTr hlt
      have hKs : K ≤ t.size := by have := hw.2.1; rw [hK] at this; simpa using this
      rw [hR, hK] at cN hst
      rw [hR] at hrr
      rw [hK] at hw
      obtain ⟨hw1, _, _⟩ := hw
      clear hR hK hne
      have esz : (t.extract K t.size).size = t.size - K := by simp
      have esz0 : (t.extract 0 K).size = K := by simp; omega
      obtain ⟨r, hr1⟩ : ∃ r : Int, (R : Int) = r := ⟨_, rfl⟩
      have hr0 : 0 ≤ r := by omega
      have hr2 : r ≤ 1114111 := by omega
      obtain ⟨hF0, hF1⟩ := toUpperU_range R hrr
      rw [hr1] at cN hF0 hF1 hst
      have cF := Tryd.unicode_ToUpper_laid r
      have HR := hideIt hr1
      obtain ⟨x, hx⟩ : ∃ x, toUpperU r = x := ⟨_, rfl⟩
      rw [hx] at hF0 hF1 hst cF
      by_cases hsur : 55296 ≤ r ∧ r < 57344
      · have Hst := hideIt hst
        have Hs := hideIt hsur
        obtain ⟨hs1, hs2⟩ := hsur
        clear hst hr1 hrr hx hF0 hF1 cF hT hC hT0 hC0 hTr hCr
        go_wp2_with (first | (go_at_call 18; refine cN.mono ?_; rintro e w2 ⟨rfl, hb2⟩; have hown2 := owns_below hown hb2) | (at_builtin; refine wpList_append_own_string _ rfl _ _ 32 9 rfl w0.heap.size 5 i0 Tryd.underlying32 Tryd.underlying9 hi hz0 hz1 hz2 _ _ _ rfl hown2 (t.extract 0 K) rfl ?c1 ?c2 ?c3 ?_))
        case c1 => unfold maxLen; omega
        case c2 => omega
        case c3 => have := hb2.size; omega
        intro v' w1 hown' hgrow _
        rw [strCells_take] at hown'
        have hs1 := owns_bytes (l := t.data.toList.take K) (by rw [List.length_take, ← size_eq]; omega) hown'
        have hb1 : Below w0.heap.size w0 w1 := (hnx.trans (hb2.mono hnx.size)).grown hgrow (by have := hb2.size; omega) (fun j hj => (hown2.lt j hj).1)
        clear hown' hgrow hown hown2
        go_wp2
        go_roundw
        case rel => exact ⟨t.extract K t.size, rfl, by rw [esz]; omega, _, hs1, by rw [List.append_assoc, extract_drop, ← hacc.out, Hst.out, if_pos (by have := Hs.out; have := HR.out; omega)], by rw [List.length_append, esz, List.length_take, ← size_eq]; omega, hb1⟩
        case measure => simp [strLen]; omega
      · have Hst := hideIt hst
        have Hs := hideIt hsur
        have hs1 : ¬ (55296 ≤ r) ∨ ¬ (r < 57344) := by omega
        clear hst hr1 hrr hx hsur hT hC hT0 hC0 hTr
        rcases hs1 with hs1 | hs1
        all_goals
          go_wp2_with (first | (go_at_call 18; refine cN.mono ?_; rintro e w2 ⟨rfl, hb2⟩; have hown2 := owns_below hown hb2; have hC2 := case_below hCr hb2; have hsz2 := hb2.size) | (go_at_call 22; refine (cF w2 hC2).mono ?_; rintro e w3 ⟨rfl, q, rfl⟩; have hown3 := owns_draws hown2 q) | (go_at_call 17; refine (Tryd.utf8_AppendRune_plain _ _ _ _ x (by omega) (by omega) _ hown3 (by omega) (by simp; omega)).mono ?_))
          rintro e w1 ⟨v', rfl, hown', o, hgrow⟩
          have hs := owns_step (zs := encodeRuneZ x) (encodeRuneZ_byte x) rfl (by simpa [runeCells, byteVals] using hown')
          have hb1 := below_step (below_draws (hnx.trans (hb2.mono hnx.size)) q) (by simp; omega) hown3 hgrow
          have hlen := (encodeRuneZ_length x).2
          clear hown' hgrow hown hown2 hown3
          go_wp2
          go_roundw
          case rel => exact ⟨t.extract K t.size, rfl, by rw [esz]; omega, _, hs, by rw [List.append_assoc, extract_drop, ← hacc.out, Hst.out, if_neg (by have := Hs.out; have := HR.out; omega)], by rw [List.length_append, esz, toBytes_length]; omega, hb1⟩
          case measure => simp [strLen]; omega

set_option maxRecDepth 100000 in
set_option maxHeartbeats 2000000 in
theorem map_lower (zs : List Int) (w : World) (hz : zs.length ≤ 1000000) (hr : ∀ u ∈ zs, 0 ≤ u ∧ u ≤ 65535) (hT : Utf8Tabs 1 2 w) (hC : CaseVar 3 caseA w) :
    Calls Tryd.prog 34 #[.string (packS zs), .func (.func 23) #[] #[]] w fun e w' => e = .returned (.string (packS (unitsL (mapL toLowerU (textL zs))))) ∧ Below w.heap.size w w' := by
  obtain ⟨i0, hi, hz0, hz1, hz2⟩ := info_parts info5
  have cS := string_any zs w (by omega) hr
  have htl : (textL zs).length ≤ 4 * zs.length := by rw [textL, toBytes_length]; exact textZ_length zs
  obtain ⟨T, hTx⟩ : ∃ T : ByteArray, (⟨(textL zs).toArray⟩ : ByteArray) = T := ⟨_, rfl⟩
  have hTl : Hid (T.data.toList = textL zs) := by rw [← hTx]; rfl
  have hTs : T.size ≤ 4000000 := by rw [size_eq, hTl.out]; omega
  rw [hTx] at cS
  rw [← hTl.out]
  clear htl hTx
  go_enter Tryd.func34, Tryd.ntmps34
  go_wp2_with fail
  refine cS.mono ?_
  rintro e w0 ⟨rfl, hb0⟩
  clear cS
  have hT0 := tabs_below hT hb0
  have hC0 := case_below hC hb0
  have hsz0 := hb0.size
  go_wp2_with fail
  go_loopw [5, 6] (fun v s0 wr => ∃ t : ByteArray, s0 = .string t ∧ t.size ≤ T.size ∧ ∃ acc : List UInt8, wr.ownsRow w0.heap.size 5 1 v acc.length (byteCells acc) ∧ acc ++ mapL toLowerU t.data.toList = mapL toLowerU T.data.toList ∧ acc.length + 4 * t.size ≤ 4 * T.size ∧ Below w0.heap.size w0 wr)
    (fun _ s0 _ => strLen s0)
  case atStart => exact ⟨T, rfl, Nat.le_refl _, [], World.ownsRow_nil _ _ _ _, rfl, by simp, Below.refl _ _⟩
  case round =>
    obtain ⟨t, rfl, ht, acc, hown, hacc0, hal, hnx⟩ := hrel
    have hacc := hideIt hacc0
    clear hacc0
    have hB : w0.heap.size ≤ wr.heap.size := hnx.size
    have hTr := tabs_below hT0 hnx
    have hCr := case_below hC0 hnx
    by_cases hlt : t.size = 0
    · have hlt0 : (t.size : Int) ≤ 0 := by omega
      have e := hacc.out
      rw [show t.data.toList = [] from List.eq_nil_of_length_eq_zero (by simpa using hlt), mapL_nil, List.append_nil] at e
      have E := hideIt e
      have kc := run_convert_row wr 32 9 5 Tryd.underlying32 Tryd.underlying5 Tryd.underlying9 hown
      have cO := of_any ⟨acc.toArray⟩ wr (by show acc.toArray.size ≤ _; rw [List.size_toArray]; omega) hTr
      rw [show (⟨acc.toArray⟩ : ByteArray).data.toList = acc from rfl] at cO
      clear e hTr hCr hT hC hT0 hC0
      go_wp2_with fail
      refine cO.mono ?_
      rintro e w1 ⟨rfl, hb1⟩
      go_wp2_with fail
      go_ret
      refine ⟨?_, hb0.trans ((hnx.trans (hb1.mono hB)).mono hsz0)⟩
      rw [← E.out]
      rfl
    · have hlt0 : (0 : Int) < (t.size : Int) := by omega
      have hne : t.data.toList ≠ [] := fun h => hlt (by have := congrArg List.length h; simpa using this)
      obtain ⟨R, hR⟩ : ∃ R, (nextL t.data.toList).1 = R := ⟨_, rfl⟩
      obtain ⟨K, hK⟩ : ∃ K, (nextL t.data.toList).2 = K := ⟨_, rfl⟩
      have hw := nextL_width _ hne
      have hrr := nextL_rune t.data.toList
      have hst := mapL_step toLowerU _ hne
      have cN := next_any t wr hTr hlt
      have hKs : K ≤ t.size := by have := hw.2.1; rw [hK] at this; simpa using this
      rw [hR, hK] at cN hst
      rw [hR] at hrr
      rw [hK] at hw
      obtain ⟨hw1, _, _⟩ := hw
      clear hR hK hne
      have esz : (t.extract K t.size).size = t.size - K := by simp
      have esz0 : (t.extract 0 K).size = K := by simp; omega
      obtain ⟨r, hr1⟩ : ∃ r : Int, (R : Int) = r := ⟨_, rfl⟩
      have hr0 : 0 ≤ r := by omega
      have hr2 : r ≤ 1114111 := by omega
      obtain ⟨hF0, hF1⟩ := toLowerU_range R hrr
      rw [hr1] at cN hF0 hF1 hst
      have cF := Tryd.unicode_ToLower_laid r
      have HR := hideIt hr1
      obtain ⟨x, hx⟩ : ∃ x, toLowerU r = x := ⟨_, rfl⟩
      rw [hx] at hF0 hF1 hst cF
      by_cases hsur : 55296 ≤ r ∧ r < 57344
      · have Hst := hideIt hst
        have Hs := hideIt hsur
        obtain ⟨hs1, hs2⟩ := hsur
        clear hst hr1 hrr hx hF0 hF1 cF hT hC hT0 hC0 hTr hCr
        go_wp2_with (first | (go_at_call 18; refine cN.mono ?_; rintro e w2 ⟨rfl, hb2⟩; have hown2 := owns_below hown hb2) | (at_builtin; refine wpList_append_own_string _ rfl _ _ 32 9 rfl w0.heap.size 5 i0 Tryd.underlying32 Tryd.underlying9 hi hz0 hz1 hz2 _ _ _ rfl hown2 (t.extract 0 K) rfl ?c1 ?c2 ?c3 ?_))
        case c1 => unfold maxLen; omega
        case c2 => omega
        case c3 => have := hb2.size; omega
        intro v' w1 hown' hgrow _
        rw [strCells_take] at hown'
        have hs1 := owns_bytes (l := t.data.toList.take K) (by rw [List.length_take, ← size_eq]; omega) hown'
        have hb1 : Below w0.heap.size w0 w1 := (hnx.trans (hb2.mono hnx.size)).grown hgrow (by have := hb2.size; omega) (fun j hj => (hown2.lt j hj).1)
        clear hown' hgrow hown hown2
        go_wp2
        go_roundw
        case rel => exact ⟨t.extract K t.size, rfl, by rw [esz]; omega, _, hs1, by rw [List.append_assoc, extract_drop, ← hacc.out, Hst.out, if_pos (by have := Hs.out; have := HR.out; omega)], by rw [List.length_append, esz, List.length_take, ← size_eq]; omega, hb1⟩
        case measure => simp [strLen]; omega
      · have Hst := hideIt hst
        have Hs := hideIt hsur
        have hs1 : ¬ (55296 ≤ r) ∨ ¬ (r < 57344) := by omega
        clear hst hr1 hrr hx hsur hT hC hT0 hC0 hTr
        rcases hs1 with hs1 | hs1
        all_goals
          go_wp2_with (first | (go_at_call 18; refine cN.mono ?_; rintro e w2 ⟨rfl, hb2⟩; have hown2 := owns_below hown hb2; have hC2 := case_below hCr hb2; have hsz2 := hb2.size) | (go_at_call 23; refine (cF w2 hC2).mono ?_; rintro e w3 ⟨rfl, q, rfl⟩; have hown3 := owns_draws hown2 q) | (go_at_call 17; refine (Tryd.utf8_AppendRune_plain _ _ _ _ x (by omega) (by omega) _ hown3 (by omega) (by simp; omega)).mono ?_))
          rintro e w1 ⟨v', rfl, hown', o, hgrow⟩
          have hs := owns_step (zs := encodeRuneZ x) (encodeRuneZ_byte x) rfl (by simpa [runeCells, byteVals] using hown')
          have hb1 := below_step (below_draws (hnx.trans (hb2.mono hnx.size)) q) (by simp; omega) hown3 hgrow
          have hlen := (encodeRuneZ_length x).2
          clear hown' hgrow hown hown2 hown3
          go_wp2
          go_roundw
          case rel => exact ⟨t.extract K t.size, rfl, by rw [esz]; omega, _, hs, by rw [List.append_assoc, extract_drop, ← hacc.out, Hst.out, if_neg (by have := Hs.out; have := HR.out; omega)], by rw [List.length_append, esz, toBytes_length]; omega, hb1⟩
          case measure => simp [strLen]; omega

end Go.Proofs.YtdijkobiffhgcaaDoor.Un
