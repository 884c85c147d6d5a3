/-
  The program's Units: the units of a text. Conditions: a text of at most 1000000000 bytes; the tables of unicode/utf8 as they are laid.
-/
import Derived.Test.YtdijkobiffhgcaaDoorNext
namespace Go.Proofs.YtdijkobiffhgcaaDoor.Un
open Go.RowKit Go.Lib

theorem tabs_below {w w' : World} (h : Utf8Tabs 1 2 w) (hb : Below w.heap.size w w') : Utf8Tabs 1 2 w' :=
  ⟨fun c hc => cell_later hb (h.1 c hc), fun i hi => ⟨cell_later hb (h.2 i hi).1, cell_later hb (h.2 i hi).2⟩⟩

theorem info27 : (Tryd.prog.info? 27).map (fun i => (i.zero, i.size, i.bytes)) = some (some (.int .u16 0), 1, 2) := by kernel_rfl

def strLen : Value → Nat | .string t => t.size | _ => 0

def u16Vals (zs : List Int) : List Value := zs.map (Value.int .u16)

theorem u16Vals_append (a b : List Int) : u16Vals (a ++ b) = u16Vals a ++ u16Vals b := by simp [u16Vals]

theorem owns_step16 {w : World} {B : Nat} {v : Value} {acc zs : List Int} {m : Nat} (hm : zs.length = m)
    (h : w.ownsRow B 27 1 v (acc.length + m) (u16Vals acc ++ u16Vals zs)) : w.ownsRow B 27 1 v (acc ++ zs).length (u16Vals (acc ++ zs)) := by
  rw [u16Vals_append, List.length_append, hm]
  exact h

theorem piece_low (r : Nat) (h : r < 65536) : piece r = [(r : Int)] := by unfold piece; rw [if_neg (by omega)]
theorem piece_high (r : Nat) (h : 65536 ≤ r) : piece r = [55296 + ((r : Int) - 65536) / 1024, 56320 + ((r : Int) - 65536) % 1024] := by unfold piece; rw [if_pos h]

theorem extract_drop (t : ByteArray) (k : Nat) : (t.extract k t.size).data.toList = t.data.toList.drop k := by
  rw [extract_data]
  exact List.take_of_length_le (by rw [List.length_drop, ← size_eq]; exact Nat.le_refl _)

set_option maxHeartbeats 1000000 in
set_option maxRecDepth 100000 in
theorem units_any (s : ByteArray) (w : World) (hs : s.size ≤ 1000000000) (hT : Utf8Tabs 1 2 w) :
    Calls Tryd.prog 6 #[.string s] w fun e w' => ∃ v, e = .returned v ∧ w'.ownsRow w.heap.size 27 1 v (unitsL s.data.toList).length (u16Vals (unitsL s.data.toList)) ∧ Below w.heap.size w w' ∧ (unitsL s.data.toList = [] → v = .slice none 0 0) := by
  obtain ⟨i0, hi, hz0, hz1, hz2⟩ := info_parts info27
  go_enter Tryd.func6, Tryd.ntmps6
  go_wp2_with fail
  go_loopw [0, 3] (fun s0 v wr => ∃ t : ByteArray, s0 = .string t ∧ t.size ≤ s.size ∧ ∃ acc : List Int, wr.ownsRow w.heap.size 27 1 v acc.length (u16Vals acc) ∧ acc ++ unitsL t.data.toList = unitsL s.data.toList ∧ acc.length + t.size ≤ s.size ∧ Below w.heap.size w wr ∧ (acc = [] → v = .slice none 0 0))
    (fun s0 _ _ => strLen s0)
  case atStart => exact ⟨s, rfl, Nat.le_refl _, [], World.ownsRow_nil _ _ _ _, rfl, by simp, Below.refl _ _, fun _ => rfl⟩
  case round =>
    obtain ⟨t, rfl, ht, acc, hown, hacc0, hal, hnx, hnil0⟩ := hrel
    have hacc := hideIt hacc0
    have hnil := hideIt hnil0
    clear hacc0 hnil0
    have hB : w.heap.size ≤ wr.heap.size := hnx.size
    have hTr := tabs_below hT hnx
    by_cases hlt : t.size = 0
    · have hlt0 : (t.size : Int) ≤ 0 := by omega
      go_wp2
      go_ret
      have e := hacc.out
      rw [show t.data.toList = [] from List.eq_nil_of_length_eq_zero (by simpa using hlt), unitsL_nil, List.append_nil] at e
      rw [← e]
      exact ⟨_, rfl, hown, hnx, hnil.out⟩
    · have hlt0 : (0 : Int) < (t.size : Int) := by omega
      have hne : t.data.toList ≠ [] := fun h => hlt (by have := congrArg List.length h; simpa using this)
      obtain ⟨R, hR⟩ : ∃ R, (nextL t.data.toList).1 = R := ⟨_, rfl⟩
      obtain ⟨K, hK⟩ : ∃ K, (nextL t.data.toList).2 = K := ⟨_, rfl⟩
      have hw := nextL_width _ hne
      have hr := nextL_rune t.data.toList
      have hst := hideIt (unitsL_step _ hne)
      have hpl := hideIt (piece_le _ hne)
      have cN := next_any t wr hTr hlt
      have hKs : K ≤ t.size := by have := hw.2.1; rw [hK] at this; simpa using this
      rw [hR, hK] at cN hst
      rw [hR, hK] at hpl
      rw [hR] at hr
      rw [hK] at hw
      obtain ⟨hw1, _, _⟩ := hw
      clear hR hK hne
      have esz : (t.extract K t.size).size = t.size - K := by simp
      obtain ⟨r, hr1⟩ : ∃ r : Int, (R : Int) = r := ⟨_, rfl⟩
      have hr0 : 0 ≤ r := by omega
      have hr2 : r ≤ 1114111 := by omega
      rw [hr1] at cN
      by_cases hbig : 65536 ≤ r
      · have hp : Hid (piece R = [55296 + (r - 65536) / 1024, 56320 + (r - 65536) % 1024]) := by rw [piece_high R (by omega), hr1]; rfl
        have ea := i32_and_1023 (r - 65536) (by omega) (by omega)
        clear hr1 hr
        go_wp2_with (first | (go_at_call 18; refine cN.mono ?_; rintro e w2 ⟨rfl, hb2⟩; have hown2 := owns_below hown hb2) | (at_builtin; refine wpList_append_own _ rfl _ _ 22 rfl w.heap.size 27 i0 (.int .u16 0) 1 2 Tryd.underlying22 hi hz0 hz1 hz2 rfl (by decide) _ _ _ rfl (hown2.alloc _) ⟨w2.heap.size, 0, none⟩ 2 2 (u16Vals [55296 + (r - 65536) / 1024, 56320 + (r - 65536) % 1024]) rfl rfl ?c1 ?c2 ?c3 ?c4 ?c5 ?_))
        case c1 => exact cells_new _ _ _
        case c2 => intro u hu; simp [u16Vals] at hu; rcases hu with rfl | rfl <;> rfl
        case c3 => unfold maxLen; omega
        case c4 => omega
        case c5 => have := hb2.size; simp; omega
        intro v' w1 hown' hgrow _
        have hs1 := owns_step16 (zs := [55296 + (r - 65536) / 1024, 56320 + (r - 65536) % 1024]) rfl hown'
        have hb1 := below_step (hnx.trans (hb2.mono hnx.size)) (by have := hb2.size; omega) hown2 hgrow
        rw [← hp.out] at hs1
        clear hown' hgrow hown hown2
        go_wp2
        go_roundw
        case rel => exact ⟨t.extract K t.size, rfl, by rw [esz]; omega, _, hs1, by rw [List.append_assoc, extract_drop, ← hst.out, hacc.out], by rw [List.length_append, esz]; have := hpl.out; omega, hb1, fun h => absurd h (by rw [hp.out]; simp)⟩
        case measure => simp [strLen]; omega
      · have hp : Hid (piece R = [r]) := by rw [piece_low R (by omega), hr1]; rfl
        have hrlt : r < 65536 := by omega
        clear hr1 hr hbig
        go_wp2_with (first | (go_at_call 18; refine cN.mono ?_; rintro e w2 ⟨rfl, hb2⟩; have hown2 := owns_below hown hb2) | (at_builtin; refine wpList_append_own _ rfl _ _ 22 rfl w.heap.size 27 i0 (.int .u16 0) 1 2 Tryd.underlying22 hi hz0 hz1 hz2 rfl (by decide) _ _ _ rfl (hown2.alloc _) ⟨w2.heap.size, 0, none⟩ 1 1 (u16Vals [r]) rfl rfl ?c1 ?c2 ?c3 ?c4 ?c5 ?_))
        case c1 => exact cells_new _ _ _
        case c2 => intro u hu; simp [u16Vals] at hu; subst hu; rfl
        case c3 => unfold maxLen; omega
        case c4 => omega
        case c5 => have := hb2.size; simp; omega
        intro v' w1 hown' hgrow _
        have hs1 := owns_step16 (zs := [r]) rfl hown'
        have hb1 := below_step (hnx.trans (hb2.mono hnx.size)) (by have := hb2.size; omega) hown2 hgrow
        rw [← hp.out] at hs1
        clear hown' hgrow hown hown2
        go_wp2
        go_roundw
        case rel => exact ⟨t.extract K t.size, rfl, by rw [esz]; omega, _, hs1, by rw [List.append_assoc, extract_drop, ← hst.out, hacc.out], by rw [List.length_append, esz]; have := hpl.out; omega, hb1, fun h => absurd h (by rw [hp.out]; simp)⟩
        case measure => simp [strLen]; omega
end Go.Proofs.YtdijkobiffhgcaaDoor.Un
