/-
  UnitsTurned: the law's own walk. Conditions: the tables of unicode/utf8, unicode.CaseRanges, unicode.Zs as they are laid.
-/
import Derived.Test.YtdijkobiffhgcaaDoorFace
import Derived.Test.YtdijkobiffhgcaaDoorRText
import Derived.Laws.Strings3
import Derived.Laws.Cover3
namespace Go.Proofs.YtdijkobiffhgcaaDoor.Un
open Go.RowKit Go.Lib

theorem turned_long (s : ByteArray) (w : World) (h : 4000 < s.size) :
    Calls Tryd.prog 4 #[.string s] w fun e w' => e = .returned (.bool true) ∧ w = w' := by
  have h' : (4000 : Int) < (s.size : Int) := by omega
  go_enter Tryd.func4, Tryd.ntmps4
  go_wp2
  go_ret
  exact ⟨rfl, rfl⟩

def RetTrue (w : World) (e : Ending) (w' : World) : Prop := e = .returned (.bool true) ∧ Below w.heap.size w w'

theorem unitsL_ne (l : List UInt8) (h : l ≠ []) : unitsL l ≠ [] := by
  rw [unitsL_step l h]
  intro hh
  have := (List.append_eq_nil_iff.1 hh).1
  unfold piece at this
  split at this <;> cases this

/-- what lasts from call to call. -/
structure St (s : ByteArray) (U : List Int) (a b : Value) (B : Nat) (w x : World) : Prop where
  sz : s.size ≤ 4000
  len : U.length ≤ 4000
  units : unitsL s.data.toList = U
  range : ∀ u ∈ U, 0 ≤ u ∧ u ≤ 65535
  below : Below w.heap.size w x
  rd : Reads16 x a U
  own : x.ownsRow B 27 1 b U.length (u16Vals U)
  tabs : Utf8Tabs 1 2 x
  cases : CaseVar 3 caseA x
  zs : RVar 0 zsT x

theorem St.step {s : ByteArray} {U : List Int} {a b : Value} {B : Nat} {w x y : World} (h : St s U a b B w x) (hb : Below x.heap.size x y) : St s U a b B w y :=
  ⟨h.sz, h.len, h.units, h.range, h.below.trans (hb.mono h.below.size), h.rd.later hb, owns_below h.own hb, tabs_below h.tabs hb, case_below h.cases hb, zs_below h.zs hb⟩
theorem St.draw {s : ByteArray} {U : List Int} {a b : Value} {B : Nat} {w x : World} (h : St s U a b B w x) (q : Nat) : St s U a b B w (x.drewN q) := h.step (below_draws (Below.refl _ _) q)
theorem St.reads {s : ByteArray} {U : List Int} {a b : Value} {B : Nat} {w x : World} (h : St s U a b B w x) : Reads16 x b U := Reads16.of_owns h.own

theorem owns_ad {w : World} {B : Nat} {a : Value} {U : List Int} (h : w.ownsRow B 27 1 a U.length (u16Vals U)) (hn : U = [] → a = .slice none 0 0) : ∃ ad cap, a = .slice ad U.length cap ∧ (U.length = 0 → ad = none) := by
  by_cases h0 : U = []
  · subst h0; exact ⟨none, 0, hn rfl, fun _ => rfl⟩
  · obtain ⟨g, cap, rfl⟩ := owns_shape h (by intro hh; exact h0 (List.map_eq_nil_iff.1 hh))
    exact ⟨_, _, rfl, fun hh => absurd (List.eq_nil_of_length_eq_zero hh) h0⟩

theorem cast_zero_false {n : Nat} (h : ¬ n = 0) : ((n : Int) == 0) = false := by simp; omega

set_option maxRecDepth 100000 in
set_option maxHeartbeats 40000000 in
theorem turned_short (s : ByteArray) (w : World) (hs : s.size ≤ 4000) (hT : Utf8Tabs 1 2 w) (hC : CaseVar 3 caseA w) (hZ : RVar 0 zsT w) :
    Calls Tryd.prog 4 #[.string s] w (RetTrue w) := by
  have hs' : (s.size : Int) ≤ 4000 := by omega
  have hlU := unitsL_length s.data.toList
  have hrU := unitsL_range s.data.toList
  rw [show s.data.toList.length = s.size from rfl] at hlU
  have cA := units_any s w (by omega) hT
  obtain ⟨U, hU⟩ : ∃ U, unitsL s.data.toList = U := ⟨_, rfl⟩
  have HU := hideIt hU
  rw [hU] at cA hlU hrU
  clear hU
  go_enter Tryd.func4, Tryd.ntmps4
  go_wp2_with fail
  refine cA.mono ?_
  rintro e w1 ⟨a, rfl, own_a, hb1, hnil⟩
  obtain ⟨ad, acap, rfl, hAd⟩ := owns_ad own_a hnil
  have HN := hideIt hAd
  clear hnil hAd cA
  have cB := runits_any s w1 (by omega) (tabs_below hT hb1)
  rw [HU.out] at cB
  go_wp2_with fail
  refine cB.mono ?_
  rintro e w2 ⟨b, rfl, own_b, hb2, -⟩
  clear cB
  have hB2 : Below w.heap.size w w2 := hb1.trans (hb2.mono hb1.size)
  have S : St s U (.slice ad U.length acap) b w1.heap.size w w2 := ⟨hs, by omega, HU.out, hrU, hB2, Reads16.of_owns (owns_below own_a hb2), own_b, tabs_below hT hB2, case_below hC hB2, zs_below hZ hB2⟩
  clear own_a own_b hb1 hb2 hB2 hrU HU hT hC hZ
  have hsz : (s ++ (⟨#[33]⟩ : ByteArray)).size = s.size + 1 := by rw [ByteArray.size_append]; rfl
  have cM := units_any (s ++ ⟨#[33]⟩) w2 (by omega) S.tabs
  have hlM := unitsL_length (s ++ (⟨#[33]⟩ : ByteArray)).data.toList
  rw [show (s ++ (⟨#[33]⟩ : ByteArray)).data.toList.length = (s ++ (⟨#[33]⟩ : ByteArray)).size from rfl] at hlM
  have hneM := unitsL_ne (s ++ (⟨#[33]⟩ : ByteArray)).data.toList (by
    intro hh
    have : (s ++ (⟨#[33]⟩ : ByteArray)).data.toList.length = 0 := by rw [hh]; rfl
    rw [show (s ++ (⟨#[33]⟩ : ByteArray)).data.toList.length = (s ++ (⟨#[33]⟩ : ByteArray)).size from rfl] at this
    omega)
  obtain ⟨M, hM⟩ : ∃ M, unitsL (s ++ (⟨#[33]⟩ : ByteArray)).data.toList = M := ⟨_, rfl⟩
  rw [hM] at cM hlM hneM
  clear hM
  go_wp2_with fail
  refine cM.mono ?_
  rintro e w3 ⟨m, rfl, own_m, hb3, -⟩
  clear cM
  obtain ⟨g, mcap, rfl⟩ := owns_shape own_m (by intro hh; exact hneM (List.map_eq_nil_iff.1 hh))
  have S3 := S.step hb3
  have hmlen : M.length ≤ 4001 := by omega
  have hgB : w2.heap.size ≤ w3.heap.size := hb3.size
  clear hneM hlM hsz
  have own_x : ∃ xs, w3.ownsRow w2.heap.size 27 1 (.slice (some ⟨g, 0, none⟩) M.length mcap) M.length xs := ⟨_, own_m⟩
  clear own_m S3
  go_wp2_with fail
  go_loopw [6] (fun i wr => ∃ k : Nat, k ≤ M.length ∧ i = .int .i64 k ∧ (∃ xs, wr.ownsRow w2.heap.size 27 1 (.slice (some ⟨g, 0, none⟩) M.length mcap) M.length xs) ∧ Below w2.heap.size w2 wr)
    (fun i _ => M.length - (RowKit.intOf i).toNat)
  case atStart => exact ⟨0, Nat.zero_le _, rfl, own_x, hb3⟩
  case round =>
    obtain ⟨k, hk, rfl, ⟨xs, hown⟩, hnx⟩ := hrel
    clear own_x hb3
    by_cases hlt : k < M.length
    · have hxl : xs.length = M.length := by have := hown.1; omega
      obtain ⟨u0, hu0⟩ : ∃ u0, xs[k]? = some u0 := ⟨_, List.getElem?_eq_getElem (by omega)⟩
      have c0 : wr.cell? ⟨g, k, none⟩ = some u0 := by rw [hown.cellAt k (by omega), hu0]
      have f0 : wr.frozen? ⟨g, k, none⟩ = false := hown.frozenAt k
      clear hu0
      go_wp2_with fail
      go_roundw
      case rel =>
        refine ⟨k + 1, by omega, by go_num, ⟨_, (hown.stored k (.int .u16 33)).1⟩, hnx.setCell (by have := (hown.lt g rfl).1; exact this) _⟩
      case measure => simp [RowKit.intOf]; omega
    · obtain rfl : k = M.length := by omega
      have hk' : ¬ ((M.length : Int) < M.length) := by omega
      replace S := S.step hnx
      clear hown hnx
      have c := same_any _ _ U U _ (by have := S.len; omega) S.rd S.reads
      rw [beq_self_eq_true] at c
      go_wp2_with fail
      refine c.mono ?_
      rintro e w5 ⟨rfl, q, rfl⟩
      clear c hk'
      replace S := S.draw q
      by_cases h0 : U.length = 0
      · obtain rfl : ad = none := HN.out h0
        have kz : ((U.length : Int) == 0) = true := by rw [h0]; rfl
        clear h0
        have c := text_reads _ U _ (by have := S.len; omega) S.range S.rd
        go_wp2_with fail
        refine c.mono ?_
        rintro e w6 ⟨rfl, hb⟩
        clear c
        replace S := S.step hb
        clear hb
        have c := rtext_reads _ U _ (by have := S.len; omega) S.range S.reads
        go_wp2_with fail
        refine c.mono ?_
        rintro e w7 ⟨rfl, hb⟩
        clear c
        replace S := S.step hb
        clear hb
        have c := same_any _ _ U U _ (by have := S.len; omega) S.rd S.reads
        rw [beq_self_eq_true] at c
        go_wp2_with fail
        refine c.mono ?_
        rintro e w8 ⟨rfl, q, rfl⟩
        clear c
        replace S := S.draw q
        have c := cased_upper _ U _ (by have := S.len; omega) S.range S.reads S.tabs S.cases
        go_wp2_with fail
        refine c.mono ?_
        rintro e w9 ⟨v, rfl, own, hb⟩
        clear c
        replace S := S.step hb
        clear hb
        have c := rtext_reads _ (casedL toUpperU U) _ (by have := S.len; have := casedL_length toUpperU U; omega) (casedL_range toUpperU U S.range) (Reads16.of_owns own)
        clear own
        go_wp2_with fail
        refine c.mono ?_
        rintro e w10 ⟨rfl, hb⟩
        clear c
        replace S := S.step hb
        clear hb
        have c := upper_any s _ S.sz S.tabs S.cases
        rw [S.units] at c
        unfold textS at c
        go_wp2_with fail
        refine c.mono ?_
        rintro e w11 ⟨rfl, hb⟩
        clear c
        replace S := S.step hb
        clear hb
        have c := cased_lower _ U _ (by have := S.len; omega) S.range S.reads S.tabs S.cases
        go_wp2_with fail
        refine c.mono ?_
        rintro e w12 ⟨v, rfl, own, hb⟩
        clear c
        replace S := S.step hb
        clear hb
        have c := rtext_reads _ (casedL toLowerU U) _ (by have := S.len; have := casedL_length toLowerU U; omega) (casedL_range toLowerU U S.range) (Reads16.of_owns own)
        clear own
        go_wp2_with fail
        refine c.mono ?_
        rintro e w13 ⟨rfl, hb⟩
        clear c
        replace S := S.step hb
        clear hb
        have c := lower_any s _ S.sz S.tabs S.cases
        rw [S.units] at c
        unfold textS at c
        go_wp2_with fail
        refine c.mono ?_
        rintro e w14 ⟨rfl, hb⟩
        clear c
        replace S := S.step hb
        clear hb
        have c := rtrim_owned _ _ U _ (by have := S.len; omega) S.range S.zs S.own
        go_wp2_with fail
        refine c.mono ?_
        rintro e w15 ⟨i, k, v, hT1, rfl, hR, hb⟩
        clear c
        replace S := S.step hb
        clear hb
        have HT1 := hideIt hT1
        clear hT1
        have c := rtext_reads _ ((U.take k).drop i) _ (by have := S.len; rw [List.length_drop, List.length_take]; omega) (fun u hu => S.range u (List.mem_of_mem_take (List.mem_of_mem_drop hu))) hR
        clear hR
        go_wp2_with fail
        refine c.mono ?_
        rintro e w16 ⟨rfl, hb⟩
        clear c
        replace S := S.step hb
        clear hb
        have c := trim_any s _ S.sz S.tabs S.zs
        rw [S.units] at c
        unfold textS at c
        go_wp2_with fail
        refine c.mono ?_
        rintro e w17 ⟨i', k', hT2, rfl, hb⟩
        clear c
        replace S := S.step hb
        clear hb
        obtain ⟨rfl, rfl⟩ := Trimmed.one HT1.out hT2
        clear hT2
        go_wp2_with fail
        go_ret
        exact ⟨by simp, S.below⟩
      · have kz := cast_zero_false h0
        clear h0
        have c := text_reads _ U _ (by have := S.len; omega) S.range S.rd
        go_wp2_with fail
        refine c.mono ?_
        rintro e w6 ⟨rfl, hb⟩
        clear c
        replace S := S.step hb
        clear hb
        have c := rtext_reads _ U _ (by have := S.len; omega) S.range S.reads
        go_wp2_with fail
        refine c.mono ?_
        rintro e w7 ⟨rfl, hb⟩
        clear c
        replace S := S.step hb
        clear hb
        have c := same_any _ _ U U _ (by have := S.len; omega) S.rd S.reads
        rw [beq_self_eq_true] at c
        go_wp2_with fail
        refine c.mono ?_
        rintro e w8 ⟨rfl, q, rfl⟩
        clear c
        replace S := S.draw q
        have c := cased_upper _ U _ (by have := S.len; omega) S.range S.reads S.tabs S.cases
        go_wp2_with fail
        refine c.mono ?_
        rintro e w9 ⟨v, rfl, own, hb⟩
        clear c
        replace S := S.step hb
        clear hb
        have c := rtext_reads _ (casedL toUpperU U) _ (by have := S.len; have := casedL_length toUpperU U; omega) (casedL_range toUpperU U S.range) (Reads16.of_owns own)
        clear own
        go_wp2_with fail
        refine c.mono ?_
        rintro e w10 ⟨rfl, hb⟩
        clear c
        replace S := S.step hb
        clear hb
        have c := upper_any s _ S.sz S.tabs S.cases
        rw [S.units] at c
        unfold textS at c
        go_wp2_with fail
        refine c.mono ?_
        rintro e w11 ⟨rfl, hb⟩
        clear c
        replace S := S.step hb
        clear hb
        have c := cased_lower _ U _ (by have := S.len; omega) S.range S.reads S.tabs S.cases
        go_wp2_with fail
        refine c.mono ?_
        rintro e w12 ⟨v, rfl, own, hb⟩
        clear c
        replace S := S.step hb
        clear hb
        have c := rtext_reads _ (casedL toLowerU U) _ (by have := S.len; have := casedL_length toLowerU U; omega) (casedL_range toLowerU U S.range) (Reads16.of_owns own)
        clear own
        go_wp2_with fail
        refine c.mono ?_
        rintro e w13 ⟨rfl, hb⟩
        clear c
        replace S := S.step hb
        clear hb
        have c := lower_any s _ S.sz S.tabs S.cases
        rw [S.units] at c
        unfold textS at c
        go_wp2_with fail
        refine c.mono ?_
        rintro e w14 ⟨rfl, hb⟩
        clear c
        replace S := S.step hb
        clear hb
        have c := rtrim_owned _ _ U _ (by have := S.len; omega) S.range S.zs S.own
        go_wp2_with fail
        refine c.mono ?_
        rintro e w15 ⟨i, k, v, hT1, rfl, hR, hb⟩
        clear c
        replace S := S.step hb
        clear hb
        have HT1 := hideIt hT1
        clear hT1
        have c := rtext_reads _ ((U.take k).drop i) _ (by have := S.len; rw [List.length_drop, List.length_take]; omega) (fun u hu => S.range u (List.mem_of_mem_take (List.mem_of_mem_drop hu))) hR
        clear hR
        go_wp2_with fail
        refine c.mono ?_
        rintro e w16 ⟨rfl, hb⟩
        clear c
        replace S := S.step hb
        clear hb
        have c := trim_any s _ S.sz S.tabs S.zs
        rw [S.units] at c
        unfold textS at c
        go_wp2_with fail
        refine c.mono ?_
        rintro e w17 ⟨i', k', hT2, rfl, hb⟩
        clear c
        replace S := S.step hb
        clear hb
        obtain ⟨rfl, rfl⟩ := Trimmed.one HT1.out hT2
        clear hT2
        go_wp2_with fail
        go_ret
        exact ⟨by simp, S.below⟩

theorem turned_any (s : ByteArray) (w : World) (hT : Utf8Tabs 1 2 w) (hC : CaseVar 3 caseA w) (hZ : RVar 0 zsT w) :
    Calls Tryd.prog 4 #[.string s] w (RetTrue w) := by
  by_cases h : 4000 < s.size
  · exact (turned_long s w h).mono fun e w' ⟨h1, h2⟩ => ⟨h1, h2 ▸ Below.refl _ _⟩
  · exact turned_short s w (by omega) hT hC hZ
end Go.Proofs.YtdijkobiffhgcaaDoor.Un
