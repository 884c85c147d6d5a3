/-
  strconv's setDigits: the digits laid in the buffer, the zeros at the end struck. Conditions: as each says.
-/
import Derived.Test.YtdijkobiffhgcaaGreatDoorDigW
import Derived.Test.YtdijkobiffhgcaaGreatDoorShelf
import Derived.Sort.Row
namespace Go.Proofs.YtdijkobiffhgcaaGreatDoor.Nu
open Go.RowKit Go.Lib Go.Sort

theorem nDigits_eq (u : Nat) (h : u ≠ 0) : Lib.nDigits u = (dec u).length := by
  rw [dec_length]
  induction u using Nat.strongRecOn with
  | _ u ih =>
    rw [Lib.nDigits, decR_step u h]
    by_cases h1 : u < 10
    · rw [dif_pos h1, show u / 10 = 0 by omega, decR_zero]; rfl
    · rw [dif_neg h1, ih _ (by omega) (by omega)]; rfl
theorem decB_at (u : Nat) : ∀ j, j < (decB u).length → (decB u).getD j 0 = Lib.dg u j := by
  induction u using Nat.strongRecOn with
  | _ u ih =>
    intro j hj
    by_cases h : u = 0
    · subst h; unfold decB at hj; rw [decR_zero] at hj; simp at hj
    · rw [decB_step u h] at hj ⊢
      match j with
      | 0 => show UInt8.ofNat (48 + u % 10) = UInt8.ofNat (48 + u / 10 ^ 0 % 10); rw [Nat.pow_zero, Nat.div_one]
      | j + 1 =>
        show (decB (u / 10)).getD j 0 = UInt8.ofNat (48 + u / 10 ^ (j + 1) % 10)
        rw [ih _ (by omega) j (by simpa using hj)]
        unfold Lib.dg
        rw [Nat.div_div_eq_div_mul, Nat.pow_succ, Nat.mul_comm 10]
theorem dec_at (u t : Nat) (h : t < (dec u).length) : (dec u).getD t 0 = Lib.dg u ((dec u).length - 1 - t) := by
  have hl : (dec u).length = (decB u).length := by rw [dec_eq, List.length_reverse]
  rw [← decB_at u _ (by omega), dec_eq, List.length_reverse]
  rw [List.getD, List.getD, List.getElem?_reverse (by omega)]
theorem dec_len_pow (d j : Nat) (h : d ≠ 0) : (dec (d * 10 ^ j)).length = (dec d).length + j := by
  rw [dec_pow d h j, List.length_append, List.length_replicate]

theorem dg_shift (d j i : Nat) : Lib.dg (d * 10 ^ j) (i + j) = Lib.dg d i := by
  unfold Lib.dg
  rw [Nat.pow_add, Nat.mul_comm (10 ^ i), ← Nat.div_div_eq_div_mul, Nat.mul_div_cancel _ (Nat.pow_pos (by omega))]
theorem dg_low (d j i : Nat) (h : i < j) : Lib.dg (d * 10 ^ j) i = 48 := by
  unfold Lib.dg
  obtain ⟨k, rfl⟩ : ∃ k, j = i + 1 + k := ⟨j - i - 1, by omega⟩
  have e : d * 10 ^ (i + 1 + k) = (d * 10 ^ k * 10) * 10 ^ i := by
    rw [Nat.pow_add, Nat.pow_succ]; ac_rfl
  rw [e, Nat.mul_div_cancel _ (Nat.pow_pos (by omega)), Nat.mul_mod_left]
  rfl
theorem dg_top0 (d j : Nat) (h : d % 10 ≠ 0) : Lib.dg (d * 10 ^ j) j ≠ 48 := by
  have := dg_shift d j 0
  rw [Nat.zero_add] at this
  rw [this]
  unfold Lib.dg
  rw [Nat.pow_zero, Nat.div_one]
  intro hh
  have h2 := congrArg UInt8.toNat hh
  have : (UInt8.ofNat (48 + d % 10)).toNat = 48 + d % 10 := by simp; omega
  rw [this] at h2
  have h48 : (48 : UInt8).toNat = 48 := rfl
  rw [h48] at h2
  omega

theorem putRow_block (enc : UInt8 → Value) (w : World) (B : Nat) (d : Array UInt8) (c : Array Value) (T : TypeId) (hb : w.heap[B]? = some (.cells c T (0, 0))) :
    (putRow enc w B 0 d).heap[B]? = some (.cells (putCells enc 0 d c) T (0, 0)) := by
  simp [putRow, mapBlock, onCells, Array.getElem?_modify, hb]
theorem putRow_below (enc : UInt8 → Value) (w : World) (B : Nat) (d : Array UInt8) : Below B w (putRow enc w B 0 d) :=
  ⟨rfl, rfl, rfl, by simp, fun k hk => by simp [putRow, mapBlock, Array.getElem?_modify, show ¬ B = k by omega]⟩

set_option maxRecDepth 100000 in
set_option maxHeartbeats 4000000 in
theorem set_any (B D d j0 L nd : Nat) (p : Int) (c : Array Value) (T : TypeId) (w : World) (hD : D = d * 10 ^ j0) (hd : d % 10 ≠ 0) (hD64 : D < 18446744073709551616) (hL : (dec d).length = L) (hnd : L + j0 = nd) (hnd2 : nd ≤ 20) (hp : -2000 ≤ p ∧ p ≤ 2000)
    (hb : w.heap[B]? = some (.cells c T (0, 0))) (hz : ∀ j, j < 32 → w.cell? ⟨B, j, none⟩ = some (.int .u8 0)) :
    Calls Tryz.prog 93 #[.slice (some ⟨B, 0, none⟩) 32 32, .int .u64 (D : Int), .int .i64 p, .int .i64 (nd : Int)] w fun r w' => r = .returned (.tuple #[.int .i64 ((nd : Int) + p), .int .i64 (L : Int)]) ∧
      (∃ c', w'.heap[B]? = some (.cells c' T (0, 0))) ∧ (∀ j, j < L → w'.cell? ⟨B, j, none⟩ = some (.int .u8 (((dec d).getD j 0).toNat : Int))) ∧ Below B w w' := by
  have hd0 : d ≠ 0 := by intro h; rw [h] at hd; omega
  have hDl : (dec D).length = nd := by rw [hD, dec_len_pow d j0 hd0, hL, hnd]
  have hDlt : D < 10 ^ nd := by rw [← hDl, dec_length]; exact decR_lt D
  have hL0 : 0 < L := by rw [← hL]; exact dec_pos d hd0
  have hfz : ∀ j, w.frozen? ⟨B, j, none⟩ = false := fun j => by simp [World.frozen?, hb]
  have hH : Holds (fun (b : UInt8) => Value.int .u8 (b.toNat : Int)) w B 0 (Array.replicate nd 0) := by
    intro j hj
    rw [Array.size_replicate] at hj
    rw [Nat.zero_add]
    refine ⟨?_, hfz j⟩
    rw [hz j (by omega), getElem!_pos _ j (by rw [Array.size_replicate]; exact hj), Array.getElem_replicate]
    rfl
  have cF := Tryz.internal_strconv_formatBase10 B 0 32 D (Array.replicate nd 0) w hH (by rw [Array.size_replicate]; exact hDlt) hD64 (by rw [Array.size_replicate]; omega)
  rw [Array.size_replicate] at cF
  have HH := hideIt hH
  have HB := hideIt hb
  have n1 : ((nd : Int) ≤ 32) := by omega
  have n2 : IntKind.i64.wrap ((nd : Int) + p) = (nd : Int) + p := IntWalk.i64_in _ (by omega)
  have hLat : ∀ t, t < nd → t < L → (dec d).getD t 0 = Lib.dg D (nd - 1 - t) := fun t h1 h2 => by
    rw [dec_at d t (by omega), hD]
    have := dg_shift d j0 ((dec d).length - 1 - t)
    rw [show (dec d).length - 1 - t + j0 = nd - 1 - t by omega] at this
    exact this.symm
  have hlow : ∀ i, i < j0 → Lib.dg D i = 48 := fun i h => by rw [hD]; exact dg_low d j0 i h
  have htop : Lib.dg D j0 ≠ 48 := by rw [hD]; exact dg_top0 d j0 hd
  have HLAT := hideIt hLat
  have HLOW := hideIt hlow
  have HTOP := hideIt htop
  have HND := hideIt hnd
  clear hD hd hD64 hL hd0 hDl hDlt hfz hH hz hb hLat hlow htop
  go_enter Tryz.func93, Tryz.ntmps93
  go_wp2_with fail
  refine cF.mono ?_
  rintro r w1 ⟨rfl, n, v', dk, hw1, hinv⟩
  have hb1 : w1.heap[B]? = some (.cells (putCells (fun (b : UInt8) => Value.int .u8 (b.toNat : Int)) 0 dk c) T (0, 0)) := by rw [hw1]; exact putRow_block _ w B dk c T HB.out
  have hbel : Below B w w1 := by rw [hw1]; exact below_draws (putRow_below _ w B dk) n
  have hcell : ∀ t, t < nd → w1.cell? ⟨B, t, none⟩ = some (.int .u8 ((Lib.dg D (nd - 1 - t)).toNat : Int)) := fun t ht => by
    have hs := hinv.size
    have := cell?_putRow (fun (b : UInt8) => Value.int .u8 (b.toNat : Int)) w B 0 (Array.replicate nd 0) dk HH.out (by rw [hs, Array.size_replicate]) t (by omega)
    rw [Nat.zero_add] at this
    rw [← hinv.done t (Nat.zero_le _) ht, hw1]
    exact this
  have HCELL := hideIt hcell
  clear hw1 hinv hcell cF
  go_wp2_with fail
  go_loop [3] (fun nv => ∃ i : Nat, i ≤ j0 ∧ nv = .int .i64 ((L + i : Nat) : Int)) (fun nv => (RowKit.intOf nv).toNat)
  case atStart => exact ⟨j0, Nat.le_refl _, by rw [HND.out]⟩
  case round =>
    obtain ⟨i, hi, rfl⟩ := hrel
    obtain ⟨m, hm⟩ : ∃ m, L + i = m + 1 := ⟨L + i - 1, by omega⟩
    rw [hm]
    have hc := HCELL.out m (by have := HND.out; omega)
    have e1 : IntKind.i64.wrap (((m + 1 : Nat) : Int) - 1) = (m : Int) := by rw [show ((m + 1 : Nat) : Int) - 1 = m by omega]; exact IntWalk.i64_in _ (by omega)
    have e2 : (0 : Int) < ((m + 1 : Nat) : Int) := by omega
    have e3 : (0 : Int) ≤ (m : Int) ∧ (m : Int) < 32 := by omega
    have e4 : ((m + 1 : Nat) : Int) - 1 = (m : Int) := by omega
    obtain ⟨g, hg⟩ : ∃ g : Int, ((Lib.dg D (nd - 1 - m)).toNat : Int) = g := ⟨_, rfl⟩
    rw [hg] at hc
    have HG := hideIt hg
    have HM := hideIt hm
    clear hg hm
    by_cases i0 : i = 0
    · subst i0
      have hgv : (g == 48) = false := by
        rw [beq_eq_false_iff_ne]
        intro h
        have a := HG.out
        have hm0 := HM.out
        rw [show nd - 1 - m = j0 by have := HND.out; omega] at a
        apply HTOP.out
        apply UInt8.toNat_inj.1
        have h48 : (48 : UInt8).toNat = 48 := rfl
        rw [h48]; omega
      go_wp2_with fail
      go_ret2
      refine ⟨?_, ⟨_, hb1⟩, fun j hj => ?_, hbel⟩
      · show Ending.returned (.tuple #[.int .i64 ((nd : Int) + p), .int .i64 ((m : Int) + 1)]) = _
        rw [show (m : Int) + 1 = (L : Int) by have := HM.out; omega]
      · have := HCELL.out j (by have := HND.out; omega)
        rw [← HLAT.out j (by have := HND.out; omega) hj] at this
        exact this
    · have hgv : (g == 48) = true := by
        rw [beq_iff_eq]
        have a := HG.out
        have hm0 := HM.out
        rw [HLOW.out (nd - 1 - m) (by have := HND.out; omega)] at a
        have h48 : (48 : UInt8).toNat = 48 := rfl
        rw [h48] at a; omega
      go_wp2_with fail
      go_round
      case rel => exact ⟨i - 1, by omega, by have := HM.out; rw [show L + (i - 1) = m by omega]⟩
      case measure => simp only [RowKit.intOf]; omega
end Go.Proofs.YtdijkobiffhgcaaGreatDoor.Nu
