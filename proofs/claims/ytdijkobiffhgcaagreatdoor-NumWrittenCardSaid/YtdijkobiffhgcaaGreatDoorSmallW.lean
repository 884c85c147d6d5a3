/-
  The reference's Small, walked. Conditions: at most 400000 digits; the divisor from 1 to 65535.
-/
import Derived.Test.YtdijkobiffhgcaaGreatDoorSmall
namespace Go.Proofs.YtdijkobiffhgcaaGreatDoor.Nu
open Go.RowKit Go.Lib

set_option maxRecDepth 100000 in
set_option maxHeartbeats 4000000 in
theorem small_lists (ad : Option Addr) (ca : Nat) (a : List Nat) (d : Nat) (w : World) (hza : a.length ≤ 400000) (hda : ∀ x ∈ a, x < 65536) (hd0 : 0 < d) (hd1 : d < 65536) (ha : RdAt w ad a) :
    Calls Tryz.prog 34 #[.slice ad a.length ca, .int .u32 d] w fun e w' => ∃ v, e = .returned (.tuple #[v, .int .u32 (val a % d : Nat)]) ∧ IsN w' v (val a / d) ∧ Below w.heap.size w w' ∧ v.ownBlock = some w.heap.size := by
  obtain ⟨i0, hi, hz0, hz1, hz2⟩ := info_parts info59
  have HA := hideIt ha
  have DA := hideIt hda
  have s0 : IntKind.i64.wrap ((a.length : Int) - 1) = (a.length : Int) - 1 := IntWalk.i64_in _ (by omega)
  have HD1 := hideIt hd1
  have hdne : ¬ ((d : Int) = 0) := by omega
  clear ha hda hd1
  go_enter Tryz.func34, Tryz.ntmps34
  go_wp2_with (first | (at_make; refine wpList_make_full _ rfl _ _ 36 rfl w.heap.size 59 i0 (.int .u32 0) 1 Tryz.underlying36 hi hz0 hz1 .i64 .i64 _ _ a.length rfl rfl ?a1 ?a2 ?a3 ?a4 (Nat.le_refl _) ?_) | go_in)
  case a1 => first | rfl | omega
  case a2 => first | rfl | omega
  case a3 => rw [hz2]; omega
  case a4 => unfold maxLen; omega
  intro w1 hown1 hg1
  have hb1 : Below w.heap.size w w1 := (Below.refl _ _).grown hg1 (Nat.le_refl _) (fun k hk => by cases hk)
  have hsz1 : w.heap.size ≤ w1.heap.size := hg1.size
  rw [made_zeros] at hown1
  clear hg1
  go_wp2_with fail
  go_loopw [7, 8] (fun lv iv wr => ∃ (k left : Nat) (out : List Nat), lv = .int .u32 left ∧ iv = .int .i64 ((k : Int) - 1) ∧ k ≤ a.length ∧ SmallAt a out d k left ∧ wr.ownsRow w.heap.size 59 1 (.slice (some ⟨w.heap.size, 0, none⟩) a.length a.length) a.length (dVals out) ∧ Below w.heap.size w wr)
    (fun _ iv _ => (RowKit.intOf iv + 1).toNat)
  case atStart => exact ⟨a.length, 0, _, rfl, rfl, Nat.le_refl _, SmallAt.start a d hd0, hown1, hb1⟩
  case round =>
    obtain ⟨k, left, out, rfl, rfl, hk, hs0, hown, hnx⟩ := hrel
    have hs := hideIt hs0
    have hlen : out.length = a.length := hs0.len
    have hll := hs0.lt
    clear hs0 hown1 hb1
    by_cases h0 : k = 0
    · subst h0
      have e0 : (((0 : Nat) : Int) - 1) = -1 := rfl
      rw [e0]
      clear e0
      obtain ⟨v1, v2⟩ := hs.out.done
      have cC := cut_some_at w.heap.size 0 a.length out wr (by omega) (by omega) hs.out.dig (fun j hj => by rw [Nat.zero_add, hown.cellAt j (by omega), dVals_get out j hj])
      rw [v1, hlen] at cC
      have V2 := hideIt v2
      clear v1 v2 hown hlen hll
      go_wp2_with fail
      refine cC.mono ?_
      rintro e w2 ⟨v, rfl, hN, hb2, hob⟩
      go_wp2_with fail
      go_ret2
      exact ⟨_, by rw [V2.out]; rfl, hN, hnx.trans (hb2.mono hnx.size), hob⟩
    · obtain ⟨m, rfl⟩ : ∃ m, k = m + 1 := ⟨k - 1, by omega⟩
      have hm : m < a.length := by omega
      have e1 : (((m + 1 : Nat) : Int) - 1) = (m : Int) := by omega
      obtain ⟨ba, oa, rfl, hca⟩ := HA.out m hm
      obtain ⟨U, hU⟩ : ∃ U, a.getD m 0 = U := ⟨_, rfl⟩
      have hUl : U < 65536 := by rw [← hU]; exact getD_lt a DA.out m
      have c1 : wr.cell? ⟨ba, oa + m, none⟩ = some (.int .u32 (U : Int)) := by rw [← hU]; exact (hnx.cell (World.block_lt_of_cell? w _ hca)).trans hca
      have f3 : wr.frozen? ⟨w.heap.size, m, none⟩ = false := hown.frozenAt _
      obtain ⟨u0, hu0⟩ : ∃ u0, (dVals out)[m]? = some u0 := ⟨_, dVals_get out m (by omega)⟩
      have c3 : wr.cell? ⟨w.heap.size, m, none⟩ = some u0 := by rw [hown.cellAt m (by omega), hu0]
      obtain ⟨x, hx⟩ : ∃ x, left * 65536 + U = x := ⟨_, rfl⟩
      obtain ⟨q1, q2⟩ := hs.out.step hm DA.out x (by rw [hU, hx])
      have hst := hideIt q2
      obtain ⟨q, hq⟩ : ∃ q, x / d = q := ⟨_, rfl⟩
      obtain ⟨r, hr⟩ : ∃ r, x % d = r := ⟨_, rfl⟩
      rw [hq, hr] at hst
      rw [hq] at q1
      have hD1 := HD1.out
      have g1 : IntKind.u32.wrap ((left : Int) * 65536) = (left : Int) * 65536 := by have := u32_in ((left : Int) * 65536) (left * 65536) (by omega) (by omega); rw [this]; omega
      have g2 : IntKind.u32.wrap ((left : Int) * 65536 + U) = (x : Int) := u32_in _ _ (by omega) (by omega)
      have g3 : IntKind.u32.wrap ((x : Int) / d) = (q : Int) := u32_in _ _ (by rw [← hq]; exact (Int.natCast_ediv x d).symm ▸ rfl) (by omega)
      have g4 : (x : Int) % d = (r : Int) := by rw [← hr]; exact (Int.natCast_emod x d).symm
      have g5 : IntKind.i64.wrap ((m : Int) - 1) = (m : Int) - 1 := IntWalk.i64_in _ (by omega)
      rw [e1]
      clear hU hUl hx q1 q2 hq hr hca hu0 hlen hll hD1 e1
      go_wp2_with fail
      refine ⟨⟨m, r, _, by rw [g4], rfl, by omega, hst.out, ?_, hnx.setCell (Nat.le_refl _) _⟩, ?_⟩
      · have := (hown.stored m (.int .u32 (q : Int))).1
        rwa [dVals_set] at this
      · simp only [RowKit.intOf]
        omega

theorem small_any (va : Value) (X d : Nat) (w : World) (hx : (dg X).length ≤ 400000) (hd0 : 0 < d) (hd1 : d < 65536) (ha : IsN w va X) :
    Calls Tryz.prog 34 #[va, .int .u32 d] w fun e w' => ∃ v, e = .returned (.tuple #[v, .int .u32 (X % d : Nat)]) ∧ IsN w' v (X / d) ∧ Below w.heap.size w w' ∧ v.ownBlock = some w.heap.size := by
  obtain ⟨ad, ca, rfl, h1⟩ := Reads32.at ha
  have := small_lists ad ca (dg X) d w hx (dg_digit X) hd0 hd1 h1
  rwa [val_dg] at this
end Go.Proofs.YtdijkobiffhgcaaGreatDoor.Nu
