/-
  The program's packed strings: Len, At, List, String, Pack. Conditions: at most 1000000000 units, each from 0 to 65535.
-/
import Derived.Test.YtdijkobiffhgcaaDoorPackP
import Derived.Test.YtdijkobiffhgcaaDoorBack
import Derived.IntWalk
namespace Go.Proofs.YtdijkobiffhgcaaDoor.Un
open Go.RowKit Go.Lib

theorem ret_int {k : IntKind} {a b : Int} (h : a = b) : Ending.returned (.int k a) = .returned (.int k b) := by rw [h]

set_option maxHeartbeats 400000 in
theorem at_gen (s : ByteArray) (i : Nat) (w : World) (hz : s.size ≤ 1000000000) (hi : 2 * i + 1 < s.size) :
    Calls Tryd.prog 40 #[.string s, .int .i64 i] w fun e w' => e = .returned (.int .u16 ((s[2 * i].toNat : Int) * 256 + s[2 * i + 1].toNat)) ∧ ∃ q, w' = w.drewN q := by
  have h0 : 2 * i < s.size := by omega
  have l0 : ((s[2 * i].toNat : Nat) : Int) < 256 := by have := s[2 * i].toNat_lt; omega
  have l1 : ((s[2 * i + 1].toNat : Nat) : Int) < 256 := by have := s[2 * i + 1].toNat_lt; omega
  have s1 : IntKind.i64.wrap (2 * (i : Int)) = 2 * (i : Int) := IntWalk.i64_in _ (by omega)
  have s2 : IntKind.i64.wrap (2 * (i : Int) + 1) = 2 * (i : Int) + 1 := IntWalk.i64_in _ (by omega)
  have t1 : (2 * (i : Int)).toNat = 2 * i := by omega
  have t2 : (2 * (i : Int) + 1).toNat = 2 * i + 1 := by omega
  have b1 : (0 : Int) ≤ 2 * (i : Int) ∧ 2 * (i : Int) < s.size := by omega
  have b2 : (0 : Int) ≤ 2 * (i : Int) + 1 ∧ 2 * (i : Int) + 1 < s.size := by omega
  have q0 := u16_or_8 (s[2 * i].toNat : Int) (s[2 * i + 1].toNat : Int) (by omega) l0 (by omega) l1
  go_enter Tryd.func40, Tryd.ntmps40
  go_wp2
  go_quiet (fail)
  go_wp2
  go_ret
  exact ⟨rfl, _, rfl⟩

theorem at_any (zs : List Int) (i : Nat) (w : World) (hz : zs.length ≤ 100000000) (hr : ∀ u ∈ zs, 0 ≤ u ∧ u ≤ 65535) (hi : i < zs.length) :
    Calls Tryd.prog 40 #[.string (packS zs), .int .i64 i] w fun e w' => e = .returned (.int .u16 (zs.getD i 0)) ∧ ∃ q, w' = w.drewN q := by
  have hsz := packS_size zs
  have h1 : 2 * i + 1 < (packS zs).size := by omega
  obtain ⟨e0, e1⟩ := packS_byte zs hr i hi (by omega) h1
  refine (at_gen (packS zs) i w (by omega) h1).mono fun e w' ⟨h, q, hq⟩ => ⟨?_, q, hq⟩
  rw [h, e0, e1]
  exact ret_int (by omega)

/-- a row of n units, of which the first k are told; the others are 0. -/
def partVals (zs : List Int) (k : Nat) : List Value := u16Vals (zs.take k) ++ List.replicate (zs.length - k) (.int .u16 0)

theorem partVals_length (zs : List Int) (k : Nat) (h : k ≤ zs.length) : (partVals zs k).length = zs.length := by
  simp [partVals, u16Vals]; omega
theorem partVals_set (zs : List Int) (k : Nat) (h : k < zs.length) : (partVals zs k).set k (.int .u16 (zs.getD k 0)) = partVals zs (k + 1) := by
  have e1 : (u16Vals (zs.take k)).length = k := by simp [u16Vals]; omega
  have e2 : zs.length - k = (zs.length - (k + 1)) + 1 := by omega
  unfold partVals
  rw [List.set_append_right _ _ (by omega), e1, Nat.sub_self, e2, List.replicate_succ, List.set_cons_zero, take_succ_getD zs k h, u16Vals_append]
  simp [u16Vals]
theorem partVals_all (zs : List Int) : partVals zs zs.length = u16Vals zs := by simp [partVals]

theorem owns_draws {w : World} {B : Nat} {e : TypeId} {size n : Nat} {v : Value} {xs : List Value} (h : w.ownsRow B e size v n xs) (q : Nat) : (w.drewN q).ownsRow B e size v n xs := h

theorem made_zeros (n : Nat) : (madeCells #[Value.int IntKind.u16 0] n).toList = List.replicate n (Value.int IntKind.u16 0) := by
  apply List.ext_getElem
  · simp [madeCells]
  · intro j h1 h2
    simp [madeCells, Nat.mod_one]

set_option maxHeartbeats 1000000 in
theorem list_any (zs : List Int) (w : World) (hz : zs.length ≤ 100000000) (hr : ∀ u ∈ zs, 0 ≤ u ∧ u ≤ 65535) :
    Calls Tryd.prog 35 #[.string (packS zs)] w fun e w' => ∃ v, e = .returned v ∧ w'.ownsRow w.heap.size 27 1 v zs.length (u16Vals zs) ∧ Below w.heap.size w w' := by
  obtain ⟨i0, hi, hz0, hz1, hz2⟩ := info_parts info27
  have hsz := packS_size zs
  have hszI : ((packS zs).size : Int) = 2 * (zs.length : Int) := by omega
  have hdiv : 2 * (zs.length : Int) / 2 = zs.length := by omega
  clear hsz
  go_enter Tryd.func35, Tryd.ntmps35
  go_wp2_with (first | (at_make; refine wpList_make_full _ rfl _ _ 22 rfl w.heap.size 27 i0 (.int .u16 0) 1 Tryd.underlying22 hi hz0 hz1 .i64 .i64 _ _ zs.length rfl rfl ?a1 ?a2 ?a3 ?a4 (Nat.le_refl _) ?_) | go_in)
  case a1 => rfl
  case a2 => rfl
  case a3 => rw [hz2]; omega
  case a4 => unfold maxLen; omega
  intro w1 hown1 hg1
  have hb1 : Below w.heap.size w w1 := (Below.refl _ _).grown hg1 (Nat.le_refl _) (fun k hk => by cases hk)
  have hsz1 : w.heap.size ≤ w1.heap.size := hg1.size
  rw [made_zeros] at hown1
  clear hg1
  go_wp2_with fail
  go_loopw [10] (fun i wr => ∃ k : Nat, k ≤ zs.length ∧ i = .int .i64 k ∧ wr.ownsRow w.heap.size 27 1 (.slice (some ⟨w.heap.size, 0, none⟩) zs.length zs.length) zs.length (partVals zs k) ∧ Below w.heap.size w wr)
    (fun i _ => zs.length - (RowKit.intOf i).toNat)
  case atStart => exact ⟨0, Nat.zero_le _, rfl, by simpa [partVals, u16Vals] using hown1, hb1⟩
  case round =>
    obtain ⟨k, hk, rfl, hown, hnx⟩ := hrel
    clear hown1 hb1
    by_cases hlt : k < zs.length
    · have hlen := partVals_length zs k hk
      obtain ⟨u0, hu0⟩ : ∃ u0, (partVals zs k)[k]? = some u0 := ⟨_, List.getElem?_eq_getElem (by omega)⟩
      have c0 : wr.cell? ⟨w.heap.size, k, none⟩ = some u0 := by rw [hown.cellAt k (by omega), hu0]
      have f0 : wr.frozen? ⟨w.heap.size, k, none⟩ = false := hown.frozenAt k
      have cA := at_any zs k wr hz hr hlt
      have hset := hideIt (partVals_set zs k hlt)
      obtain ⟨U, hU⟩ : ∃ U, zs.getD k 0 = U := ⟨_, rfl⟩
      rw [hU] at cA hset
      clear hU hu0 hlen
      go_wp2_with (first | (go_at_call 40; refine cA.mono ?_; rintro e w2 ⟨rfl, q, rfl⟩))
      go_roundw
      case rel =>
        refine ⟨k + 1, by omega, by go_num, ?_, (below_draws hnx q).setCell (Nat.le_refl _) _⟩
        have := ((owns_draws hown q).stored k (.int .u16 U)).1
        rwa [hset.out] at this
      case measure => simp [RowKit.intOf]; omega
    · obtain rfl : k = zs.length := by omega
      rw [partVals_all] at hown
      have hk' : ¬ ((zs.length : Int) < zs.length) := by omega
      go_wp2_with fail
      go_ret
      exact ⟨_, rfl, hown, hnx⟩

set_option maxHeartbeats 400000 in
/-- the text of a packed string. -/
theorem string_any (zs : List Int) (w : World) (hz : zs.length ≤ 100000000) (hr : ∀ u ∈ zs, 0 ≤ u ∧ u ≤ 65535) :
    Calls Tryd.prog 26 #[.string (packS zs)] w fun e w' => e = .returned (.string ⟨(textL zs).toArray⟩) ∧ Below w.heap.size w w' := by
  have cL := list_any zs w hz hr
  go_enter Tryd.func26, Tryd.ntmps26
  go_wp2_with fail
  refine cL.mono ?_
  rintro e w1 ⟨v, rfl, own1, hb1⟩
  have cT := text_reads v zs w1 (by omega) hr (Reads16.of_owns own1)
  clear cL own1
  go_wp2_with fail
  refine cT.mono ?_
  rintro e w2 ⟨rfl, hb2⟩
  go_wp2
  go_ret
  exact ⟨rfl, hb1.trans (hb2.mono hb1.size)⟩

set_option maxHeartbeats 1000000 in
theorem pack_some (b off cap : Nat) (zs : List Int) (w : World) (hz : zs.length ≤ 100000000) (hb : b < w.heap.size)
    (hr : ∀ u ∈ zs, 0 ≤ u ∧ u ≤ 65535)
    (hc : ∀ j, j < zs.length → w.cell? ⟨b, off + j, none⟩ = some (.int .u16 (zs.getD j 0))) :
    Calls Tryd.prog 33 #[.slice (some ⟨b, off, none⟩) zs.length cap] w fun e w' => e = .returned (.string (packS zs)) ∧ Below w.heap.size w w' := by
  obtain ⟨i0, hi, hz0, hz1, hz2⟩ := info_parts info5
  go_enter Tryd.func33, Tryd.ntmps33
  go_wp2_with (at_make; refine wpList_make_own _ rfl _ _ 32 rfl w.heap.size 5 i0 (.int .u8 0) 1 Tryd.underlying32 hi hz0 hz1 .i64 .i64 _ (2 * zs.length) rfl rfl (by omega) ?a3 ?a4 (Nat.le_refl _) ?_)
  case a3 => rw [hz2]; omega
  case a4 => unfold maxLen; omega
  intro w1 hown1 hg1
  have hb1 : Below w.heap.size w w1 := (Below.refl _ _).grown hg1 (Nat.le_refl _) (fun k hk => by cases hk)
  clear hg1
  go_wp2_with fail
  go_loopw [3, 12] (fun v i wr => ∃ k : Nat, k ≤ zs.length ∧ i = .int .i64 k ∧ ∃ acc : List UInt8, wr.ownsRow w.heap.size 5 1 v acc.length (byteCells acc) ∧ acc = packL (zs.take k) ∧ Below w.heap.size w wr)
    (fun _ i _ => zs.length - (RowKit.intOf i).toNat)
  case atStart => exact ⟨0, Nat.zero_le _, rfl, [], hown1, by simp [packL, packZ, toBytes], hb1⟩
  case round =>
    obtain ⟨k, hk, rfl, acc, hown, hacc0, hnx⟩ := hrel
    have hacc := hideIt hacc0
    have hal : acc.length = 2 * k := by rw [hacc0, packL_length, List.length_take]; omega
    have hal2 : acc.length ≤ 2 * k := by omega
    clear hacc0 hown1 hb1 hal
    have hB : w.heap.size ≤ wr.heap.size := hnx.size
    by_cases hlt : k < zs.length
    · have htk := hideIt (take_succ_getD zs k hlt)
      obtain ⟨U, hU⟩ : ∃ U, zs.getD k 0 = U := ⟨_, rfl⟩
      have hcx : wr.cell? ⟨b, off + k, none⟩ = some (.int .u16 U) := by rw [← hU]; exact (hnx.cell (by exact hb)).trans (hc k hlt)
      obtain ⟨hU0, hU1⟩ : 0 ≤ U ∧ U ≤ 65535 := hr U (by rw [← hU]; simp [List.getD, List.getElem?_eq_getElem hlt])
      rw [hU] at htk
      clear hU
      go_wp2_with (at_builtin; refine wpList_append_own _ rfl _ _ 32 rfl w.heap.size 5 i0 (.int .u8 0) 1 1 Tryd.underlying32 hi hz0 hz1 hz2 rfl (by decide) _ _ _ rfl (hown.alloc _) ⟨wr.heap.size, 0, none⟩ 2 2 (byteVals [U / 256, U % 256]) rfl rfl ?c1 ?c2 ?c3 ?c4 ?c5 ?_)
      case c1 => exact cells_new _ _ _
      case c2 => intro u hu; simp [byteVals] at hu; rcases hu with rfl | rfl <;> rfl
      case c3 => unfold maxLen; omega
      case c4 => omega
      case c5 => simp; omega
      intro v' w2 hown' hgrow _
      have hs := owns_step (zs := [U / 256, U % 256]) (by intro x hx; simp at hx; rcases hx with rfl | rfl <;> omega) rfl hown'
      have hb2 := below_step hnx hB hown hgrow
      clear hown' hgrow hown hcx
      go_wp2
      go_roundw
      case rel => exact ⟨k + 1, by omega, by go_num, _, hs, by rw [htk.out, packL_append, hacc.out, packL_one], hb2⟩
      case measure => simp [RowKit.intOf]; omega
    · have hk' : ¬ ((k : Int) < zs.length) := by omega
      have kc := run_convert_row wr 32 39 5 Tryd.underlying32 Tryd.underlying5 Tryd.underlying39 hown
      go_wp2
      go_ret
      refine ⟨?_, hnx⟩
      have e := hacc.out
      rw [List.take_of_length_le (by omega)] at e
      rw [e]; rfl

set_option maxHeartbeats 400000 in
theorem pack_none (a : Option Addr) (cap : Nat) (w : World) :
    Calls Tryd.prog 33 #[.slice a 0 cap] w fun e w' => e = .returned (.string (packS [])) ∧ Below w.heap.size w w' := by
  obtain ⟨i0, hi, hz0, hz1, hz2⟩ := info_parts info5
  go_enter Tryd.func33, Tryd.ntmps33
  go_wp2_with (at_make; refine wpList_make_own _ rfl _ _ 32 rfl w.heap.size 5 i0 (.int .u8 0) 1 Tryd.underlying32 hi hz0 hz1 .i64 .i64 _ 0 rfl rfl (by first | rfl | omega) ?a3 ?a4 (Nat.le_refl _) ?_)
  case a3 => omega
  case a4 => unfold maxLen; omega
  intro w1 hown1 hg1
  have hb1 : Below w.heap.size w w1 := (Below.refl _ _).grown hg1 (Nat.le_refl _) (fun k hk => by cases hk)
  have kc := run_convert_row (l := []) w1 32 39 5 Tryd.underlying32 Tryd.underlying5 Tryd.underlying39 hown1
  clear hg1
  go_wp2_with fail
  refine wp_loop_rounds 1 ?_
  rw [rounds_succ]
  go_wp2
  go_ret
  exact ⟨rfl, hb1⟩

theorem pack_reads (v : Value) (zs : List Int) (w : World) (hz : zs.length ≤ 100000000) (hr : ∀ u ∈ zs, 0 ≤ u ∧ u ≤ 65535) (h : Reads16 w v zs) :
    Calls Tryd.prog 33 #[v] w fun e w' => e = .returned (.string (packS zs)) ∧ Below w.heap.size w w' := by
  rcases h with ⟨rfl, ad, cap, rfl⟩ | ⟨b, off, cap, rfl, hc⟩
  · exact pack_none ad cap w
  · by_cases h0 : zs.length = 0
    · obtain rfl : zs = [] := List.eq_nil_of_length_eq_zero h0
      exact pack_none _ cap w
    · exact pack_some b off cap zs w hz (World.block_lt_of_cell? w _ (hc 0 (by omega))) hr hc

end Go.Proofs.YtdijkobiffhgcaaDoor.Un
