/-
  The program's Of: a text packed. Conditions: at most 20000000 bytes; the tables of unicode/utf8 as they are laid.
-/
import Derived.Test.YtdijkobiffhgcaaDoorStr
namespace Go.Proofs.YtdijkobiffhgcaaDoor.Un
open Go.RowKit Go.Lib

def bytesZ (s : ByteArray) : List Int := s.data.toList.map fun b => (b.toNat : Int)

theorem bytesZ_length (s : ByteArray) : (bytesZ s).length = s.size := by simp [bytesZ]
theorem bytesZ_at (s : ByteArray) (k : Nat) (h : k < s.size) : (bytesZ s).getD k 0 = (s[k]'h).toNat := by
  have : s.data.toList[k]? = some (s[k]'h) := by
    rw [List.getElem?_eq_getElem (by simpa using h)]
    rfl
  simp only [bytesZ, List.getD, List.getElem?_map, this]
  rfl

/-- of n pairs of bytes the first k are told; the others are 0. -/
def partBytes (l : List Int) (k : Nat) : List Value := byteVals (packZ (l.take k)) ++ List.replicate (2 * (l.length - k)) (.int .u8 0)

theorem partBytes_length (l : List Int) (k : Nat) (h : k ≤ l.length) : (partBytes l k).length = 2 * l.length := by
  simp [partBytes, byteVals, packZ_length]; omega
theorem partBytes_zero (l : List Int) : partBytes l 0 = List.replicate (2 * l.length) (.int .u8 0) := by simp [partBytes, packZ, byteVals]
theorem partBytes_all (l : List Int) : partBytes l l.length = byteVals (packZ l) := by simp [partBytes]
theorem partBytes_set (l : List Int) (k : Nat) (h : k < l.length) (h0 : 0 ≤ l.getD k 0 ∧ l.getD k 0 < 256) : (partBytes l k).set (2 * k + 1) (.int .u8 (l.getD k 0)) = partBytes l (k + 1) := by
  have e1 : (byteVals (packZ (l.take k))).length = 2 * k := by simp [byteVals, packZ_length]; omega
  have e2 : 2 * (l.length - k) = 2 * (l.length - (k + 1)) + 1 + 1 := by omega
  have e3 : l.getD k 0 / 256 = 0 := by omega
  have e4 : l.getD k 0 % 256 = l.getD k 0 := by omega
  unfold partBytes
  rw [List.set_append_right _ _ (by omega), e1, show 2 * k + 1 - 2 * k = 1 by omega, e2, List.replicate_succ, List.replicate_succ, List.set_cons_succ, List.set_cons_zero, take_succ_getD l k h, packZ_append]
  rw [show packZ [l.getD k 0] = [l.getD k 0 / 256, l.getD k 0 % 256] from rfl, e3, e4]
  simp [byteVals]

theorem made_zeros8 (n : Nat) : (madeCells #[Value.int IntKind.u8 0] n).toList = List.replicate n (Value.int IntKind.u8 0) := by
  apply List.ext_getElem
  · simp [madeCells]
  · intro j h1 h2
    simp [madeCells, Nat.mod_one]

set_option maxRecDepth 100000 in
set_option maxHeartbeats 2000000 in
theorem of_any (s : ByteArray) (w : World) (hs : s.size ≤ 20000000) (hT : Utf8Tabs 1 2 w) :
    Calls Tryd.prog 24 #[.string s] w fun e w' => e = .returned (.string (packS (unitsL s.data.toList))) ∧ Below w.heap.size w w' := by
  obtain ⟨i0, hi, hz0, hz1, hz2⟩ := info_parts info5
  have cU := units_any s w (by omega) hT
  have hlU := unitsL_length s.data.toList
  have hl0 : s.data.toList.length = s.size := rfl
  have hrU := unitsL_range s.data.toList
  go_enter Tryd.func24, Tryd.ntmps24
  go_wp2_with fail
  go_loopw [3] (fun i wr => ∃ k : Nat, k ≤ s.size ∧ i = .int .i64 k ∧ (∀ j, j < k → byteAt s.data.toList j < 128) ∧ w = wr) (fun i _ => s.size - (RowKit.intOf i).toNat)
  case atStart => exact ⟨0, Nat.zero_le _, rfl, fun j hj => absurd hj (by omega), rfl⟩
  case round =>
    obtain ⟨k, hk, rfl, hasc0, rfl⟩ := hrel
    have hasc := hideIt hasc0
    clear hasc0
    by_cases hlt : k < s.size
    · have hg := hideIt (byteAt_get s k hlt)
      by_cases hbig : (128 : Int) ≤ s[k].toNat
      · have hlU' := hideIt hlU
        have hrU' := hideIt hrU
        clear hlU hrU hl0
        go_wp2_with (first | (go_at_call 6; refine cU.mono ?_; rintro e w1 ⟨v, rfl, own1, hb1, -⟩))
        refine (pack_reads v _ w1 (by have := hlU'.out; rw [show s.data.toList.length = s.size from rfl] at this; omega) hrU'.out (Reads16.of_owns own1)).mono ?_
        rintro e w2 ⟨rfl, hb2⟩
        go_wp2
        go_ret
        exact ⟨rfl, hb1.trans (hb2.mono hb1.size)⟩
      · have hsm : ((s[k].toNat : Nat) : Int) < 128 := by omega
        clear cU hlU hrU hl0 hbig
        go_wp2_with fail
        go_roundw
        case rel =>
          refine ⟨k + 1, by omega, by go_num, ?_, by first | rfl | trivial⟩
          intro j hj
          by_cases hjk : j = k
          · subst hjk; rw [hg.out]; omega
          · exact hasc.out j (by omega)
        case measure => simp [RowKit.intOf]; omega
    · obtain rfl : k = s.size := by omega
      have hun : Hid (unitsL s.data.toList = bytesZ s) := by
        refine unitsL_ascii _ (fun b hb => ?_)
        obtain ⟨j, hj, rfl⟩ := List.getElem_of_mem hb
        have := hasc.out j hj
        unfold byteAt at this
        rw [List.getElem?_eq_getElem hj] at this
        exact this
      have hk' : ¬ ((s.size : Int) < s.size) := by omega
      have hblen := bytesZ_length s
      clear cU hlU hrU hl0 hasc hlt
      go_wp2_with (at_make; refine wpList_make_full _ rfl _ _ 32 rfl w.heap.size 5 i0 (.int .u8 0) 1 Tryd.underlying32 hi hz0 hz1 .i64 .i64 _ _ (2 * s.size) rfl rfl ?a1 ?a2 ?a3 ?a4 (Nat.le_refl _) ?_)
      case a3 => omega
      case a4 => unfold maxLen; omega
      intro w1 hown1 hg1
      have hb1 : Below w.heap.size w w1 := (Below.refl _ _).grown hg1 (Nat.le_refl _) (fun k hk => by cases hk)
      have hsz1 : w.heap.size ≤ w1.heap.size := hg1.size
      rw [show (madeCells #[Value.int IntKind.u8 0] (2 * s.size)).toList = partBytes (bytesZ s) 0 by rw [made_zeros8, partBytes_zero, hblen]] at hown1
      clear hg1
      go_wp2_with fail
      go_loopw [25] (fun i wr => ∃ k : Nat, k ≤ s.size ∧ i = .int .i64 k ∧ wr.ownsRow w.heap.size 5 1 (.slice (some ⟨w.heap.size, 0, none⟩) (2 * s.size) (2 * s.size)) (2 * s.size) (partBytes (bytesZ s) k) ∧ Below w.heap.size w wr)
        (fun i _ => s.size - (RowKit.intOf i).toNat)
      case atStart => exact ⟨0, Nat.zero_le _, rfl, hown1, hb1⟩
      case round =>
        obtain ⟨k, hk, rfl, hown, hnx⟩ := hrel
        clear hown1 hb1
        by_cases hlt : k < s.size
        · have hlen := partBytes_length (bytesZ s) k (by omega)
          obtain ⟨u0, hu0⟩ : ∃ u0, (partBytes (bytesZ s) k)[2 * k + 1]? = some u0 := ⟨_, List.getElem?_eq_getElem (by omega)⟩
          have c0 : wr.cell? ⟨w.heap.size, 2 * k + 1, none⟩ = some u0 := by rw [hown.cellAt (2 * k + 1) (by omega), hu0]
          have f0 : wr.frozen? ⟨w.heap.size, 2 * k + 1, none⟩ = false := hown.frozenAt (2 * k + 1)
          have l0 : ((s[k].toNat : Nat) : Int) < 256 := by have := s[k].toNat_lt; omega
          have hset := partBytes_set (bytesZ s) k (by omega) (by rw [bytesZ_at s k hlt]; omega)
          rw [bytesZ_at s k hlt] at hset
          have Hset := hideIt hset
          clear hset hu0 hlen
          go_wp2_with fail
          go_roundw
          case rel =>
            refine ⟨k + 1, by omega, by go_num, ?_, hnx.setCell (Nat.le_refl _) _⟩
            have := (hown.stored (2 * k + 1) (.int .u8 (s[k].toNat : Int))).1
            rwa [Hset.out] at this
          case measure => simp [RowKit.intOf]; omega
        · obtain rfl : k = s.size := by omega
          have hr0 : ∀ x ∈ packZ (bytesZ s), 0 ≤ x ∧ x < 256 := packZ_range _ (fun u hu => by
            simp only [bytesZ, List.mem_map] at hu
            obtain ⟨b, _, rfl⟩ := hu
            have := b.toNat_lt
            omega)
          have e1 : partBytes (bytesZ s) s.size = byteCells (packL (bytesZ s)) := by
            conv => lhs; rw [← hblen]
            rw [partBytes_all, packL, byteCells_toBytes _ hr0]
          rw [e1] at hown
          have kc := run_convert_row wr 32 39 5 Tryd.underlying32 Tryd.underlying5 Tryd.underlying39 hown
          clear e1 hr0
          go_wp2_with fail
          go_ret
          refine ⟨?_, hnx⟩
          rw [hun.out]
          rfl

end Go.Proofs.YtdijkobiffhgcaaDoor.Un
