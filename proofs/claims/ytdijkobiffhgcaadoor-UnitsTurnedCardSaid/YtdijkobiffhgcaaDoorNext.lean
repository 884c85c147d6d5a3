/-
  The program's next: the code point at the front of a text.
-/
import Derived.Test.YtdijkobiffhgcaaDoorSmall
import Derived.Test.YtdijkobiffhgcaaDoorMem
import Derived.BigQuiet
import Derived.Deep.QuietTactic
import Derived.RegionTactic
namespace Go.Proofs.YtdijkobiffhgcaaDoor.Un
open Go.RowKit Go.Lib

theorem byteAt_get (s : ByteArray) (i : Nat) (h : i < s.size) : byteAt s.data.toList i = (s[i]'h).toNat := by
  unfold byteAt
  have : s.data.toList[i]? = some (s[i]'h) := by
    rw [List.getElem?_eq_getElem (by simpa using h)]
    rfl
  rw [this]; rfl

theorem get!_byteAt (s : ByteArray) (i : Nat) : (s.get! i).toNat = byteAt s.data.toList i := by
  obtain ⟨d⟩ := s
  unfold byteAt
  show (d[i]!).toNat = _
  by_cases h : i < d.size
  · rw [getElem!_pos d i h]; simp [h]
  · rw [getElem!_neg d i h]; simp [h]; rfl

theorem decodeGo_eq (s : ByteArray) (h : s.size ≠ 0) : decodeGo s = decodeN s.data.toList.length (byteAt s.data.toList 0) (byteAt s.data.toList 1) (byteAt s.data.toList 2) (byteAt s.data.toList 3) := by
  unfold decodeGo
  rw [if_neg h, decode_at]
  simp only [get!_byteAt, Nat.sub_zero]
  rfl

/-- where it is not a half that stands alone, the decoder's own. -/
theorem nextL_else (s : ByteArray) (hs : s.size ≠ 0) (R K : Nat) (hR : (decodeGo s).1 = R) (hK : (decodeGo s).2 = K)
    (h : ¬ (R = 65533 ∧ K = 1 ∧ 2 < s.size ∧ byteAt s.data.toList 0 = 237 ∧ 160 ≤ byteAt s.data.toList 1 ∧ byteAt s.data.toList 1 ≤ 191 ∧ 128 ≤ byteAt s.data.toList 2 ∧ byteAt s.data.toList 2 ≤ 191)) :
    nextL s.data.toList = (R, K) := by
  rw [decodeGo_eq s hs] at hR hK
  have hn : s.data.toList.length = s.size := rfl
  unfold nextL nextN
  rw [hn] at hR hK ⊢
  generalize byteAt s.data.toList 0 = b0 at *
  generalize byteAt s.data.toList 1 = b1 at *
  generalize byteAt s.data.toList 2 = b2 at *
  generalize byteAt s.data.toList 3 = b3 at *
  split
  · rename_i hc
    exfalso
    have : decodeN s.size b0 b1 b2 b3 = (65533, 1) := by
      unfold decodeN
      rw [if_neg (by omega), if_neg (by omega), if_pos (by omega), if_neg (by omega)]
    rw [this] at hR hK
    exact h ⟨hR.symm, hK.symm, by omega⟩
  · exact Prod.ext hR hK

theorem nextL_half (s : ByteArray) (h : 2 < s.size ∧ byteAt s.data.toList 0 = 237 ∧ 160 ≤ byteAt s.data.toList 1 ∧ byteAt s.data.toList 1 ≤ 191 ∧ 128 ≤ byteAt s.data.toList 2 ∧ byteAt s.data.toList 2 ≤ 191) :
    nextL s.data.toList = (53248 + byteAt s.data.toList 1 % 64 * 64 + byteAt s.data.toList 2 % 64, 3) := by
  have hn : s.data.toList.length = s.size := rfl
  unfold nextL nextN
  rw [hn, if_pos (by omega)]

theorem ret_two {k l : IntKind} {a a' b b' : Int} (h : a = a') (h' : b = b') : Ending.returned (.tuple #[.int k a, .int l b]) = .returned (.tuple #[.int k a', .int l b']) := by rw [h, h']

set_option maxHeartbeats 400000 in
theorem next_any (s : ByteArray) (w : World) (hT : Utf8Tabs 1 2 w) (hs : s.size ≠ 0) :
    Calls Tryd.prog 18 #[.string s] w fun e w' => e = .returned (.tuple #[.int .i32 (nextL s.data.toList).1, .int .i64 (nextL s.data.toList).2]) ∧ Below w.heap.size w w' := by
  have cD := Tryd.utf8_DecodeRuneInString s w hT
  obtain ⟨R, hR⟩ : ∃ R, (decodeGo s).1 = R := ⟨_, rfl⟩
  obtain ⟨K, hK⟩ : ∃ K, (decodeGo s).2 = K := ⟨_, rfl⟩
  rw [hR, hK] at cD
  go_enter Tryd.func18, Tryd.ntmps18
  go_wp2_with (go_at_call 19; refine cD.mono ?_; rintro e w' ⟨rfl, hb⟩)
  · have e1 := u8_and_63 (s[1].toNat : Int) (by omega) (by have := s[1].toNat_lt; omega)
    have e2 := u8_and_63 (s[2].toNat : Int) (by omega) (by have := s[2].toNat_lt; omega)
    have hlt1 : ((s[1].toNat : Nat) : Int) < 256 := by have := s[1].toNat_lt; omega
    have hlt2 : ((s[2].toNat : Nat) : Int) < 256 := by have := s[2].toNat_lt; omega
    go_quiet (fail)
    go_wp2
    go_ret2
    refine ⟨?_, below_draws hb _⟩
    have hN := nextL_half s ⟨by omega, by rw [byteAt_get s 0 (by omega)]; omega, by rw [byteAt_get s 1 (by omega)]; omega, by rw [byteAt_get s 1 (by omega)]; omega, by rw [byteAt_get s 2 (by omega)]; omega, by rw [byteAt_get s 2 (by omega)]; omega⟩
    rw [byteAt_get s 1 (by omega), byteAt_get s 2 (by omega)] at hN
    rw [hN]
    exact ret_two (by omega) (by omega)
  all_goals
    go_ret2
    refine ⟨?_, hb⟩
    have hN : nextL s.data.toList = (R, K) := nextL_else s hs R K hR hK (by
      rintro ⟨a1, a2, a3, a4, a5, a6, a7, a8⟩
      rw [byteAt_get s 0 (by omega)] at a4
      rw [byteAt_get s 1 (by omega)] at a5 a6
      rw [byteAt_get s 2 (by omega)] at a7 a8
      omega)
    rw [hN]
    exact ret_two (by omega) (by omega)
end Go.Proofs.YtdijkobiffhgcaaDoor.Un
