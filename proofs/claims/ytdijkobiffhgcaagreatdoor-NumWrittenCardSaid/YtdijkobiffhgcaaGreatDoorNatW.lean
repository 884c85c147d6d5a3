/-
  The reference's Nat: the digits of a number. Conditions: none.
-/
import Derived.Test.YtdijkobiffhgcaaGreatDoorMem
namespace Go.Proofs.YtdijkobiffhgcaaGreatDoor.Nu
open Go.RowKit Go.Lib

def intN : Value → Nat | .int _ i => i.toNat | _ => 0

set_option maxRecDepth 100000 in
set_option maxHeartbeats 1000000 in
theorem nat_any (x : Nat) (w : World) (hx0 : x < 18446744073709551616) :
    Calls Tryz.prog 14 #[.int .u64 x] w fun e w' => ∃ v, e = .returned v ∧ IsN w' v x ∧ Below w.heap.size w w' := by
  obtain ⟨i0, hi, hz0, hz1, hz2⟩ := info_parts info59
  have hx := hideIt hx0
  clear hx0
  go_enter Tryz.func14, Tryz.ntmps14
  go_wp2_with fail
  go_loopw [0, 3] (fun s0 v wr => ∃ t : Nat, s0 = .int .u64 t ∧ t ≤ x ∧ ∃ acc : List Nat, wr.ownsRow w.heap.size 59 1 v acc.length (dVals acc) ∧ acc ++ dg t = dg x ∧ Below w.heap.size w wr)
    (fun s0 _ _ => intN s0)
  case atStart => exact ⟨x, rfl, Nat.le_refl _, [], World.ownsRow_nil _ _ _ _, rfl, Below.refl _ _⟩
  case round =>
    obtain ⟨t, rfl, ht, acc, hown, hacc0, hnx⟩ := hrel
    have hal : acc.length ≤ 4 := by
      have a := congrArg List.length hacc0
      rw [List.length_append] at a
      have b := dg_len 4 x (by have := hx.out; exact Nat.lt_of_lt_of_eq this (by decide))
      omega
    have hacc := hideIt hacc0
    have hB : w.heap.size ≤ wr.heap.size := hnx.size
    clear hacc0
    by_cases h0 : t = 0
    · subst h0
      go_wp2_with fail
      go_ret
      have e := hacc.out
      rw [dg_zero, List.append_nil] at e
      rw [e] at hown
      exact ⟨_, rfl, Reads32.of_owns hown, hnx⟩
    · have h0' : (0 : Int) < t := by omega
      obtain ⟨d, hd⟩ : ∃ d : Nat, t % 65536 = d := ⟨_, rfl⟩
      have hw1 : IntKind.u32.wrap ((t : Int) % 65536) = (d : Int) := by
        have e : (t : Int) % 65536 = (d : Int) := by omega
        rw [e]
        exact Int.emod_eq_of_lt (by omega) (by show (d : Int) < 4294967296; omega)
      have hq : Hid (IntKind.u64.wrap ((t : Int) / 65536) = ((t / 65536 : Nat) : Int)) := hideIt (by
        have := hx.out
        rw [show ((t / 65536 : Nat) : Int) = (t : Int) / 65536 by omega]
        exact Int.emod_eq_of_lt (by omega) (by show (t : Int) / 65536 < 18446744073709551616; omega))
      have hstep := hideIt (dg_step t h0)
      rw [hd] at hstep
      have hD := hideIt hd
      clear h0 hd
      go_wp2_with (at_builtin; refine wpList_append_own _ rfl _ _ 36 rfl w.heap.size 59 i0 (.int .u32 0) 1 4 Tryz.underlying36 hi hz0 hz1 hz2 rfl (by decide) _ _ _ rfl (hown.alloc _) ⟨wr.heap.size, 0, none⟩ 1 1 (dVals [d]) rfl rfl ?c1 ?c2 ?c3 ?c4 ?c5 ?_)
      case c1 => exact cells_new _ _ _
      case c2 => intro u hu; simp [dVals] at hu; subst hu; rfl
      case c3 => unfold maxLen; omega
      case c4 => omega
      case c5 => simp; omega
      intro v' w2 hown' hgrow _
      have hs := owns_step32 (zs := [d]) rfl hown'
      have hb2 := below_step hnx hB hown hgrow
      clear hown' hgrow hown
      go_wp2
      go_roundw
      case rel =>
        refine ⟨t / 65536, ?_, by omega, _, hs, ?_, hb2⟩
        · rw [hq.out]
        · rw [List.append_assoc, ← hacc.out, hstep.out]; rfl
      case measure => simp only [intN]; rw [hq.out]; simp; omega
end Go.Proofs.YtdijkobiffhgcaaGreatDoor.Nu
