/-
  sameUnits: are both the same units? Conditions: at most 1000000000 units, readable.
-/
import Derived.Test.YtdijkobiffhgcaaDoorUnits
namespace Go.Proofs.YtdijkobiffhgcaaDoor.Un
open Go.RowKit Go.Lib

/-- the slice v reads as the units zs. -/
def Reads16 (w : World) (v : Value) (zs : List Int) : Prop :=
  (zs = [] ∧ ∃ ad cap, v = .slice ad 0 cap) ∨
  (∃ b off cap, v = .slice (some ⟨b, off, none⟩) zs.length cap ∧ ∀ j, j < zs.length → w.cell? ⟨b, off + j, none⟩ = some (.int .u16 (zs.getD j 0)))

theorem Reads16.shape {w : World} {v : Value} {zs : List Int} (h : Reads16 w v zs) : ∃ ad cap, v = .slice ad zs.length cap := by
  rcases h with ⟨rfl, ad, cap, rfl⟩ | ⟨b, off, cap, rfl, _⟩
  · exact ⟨_, _, rfl⟩
  · exact ⟨_, _, rfl⟩

theorem Reads16.later {w w' : World} {v : Value} {zs : List Int} (h : Reads16 w v zs) (hb : Below w.heap.size w w') : Reads16 w' v zs := by
  rcases h with h | ⟨b, off, cap, rfl, hc⟩
  · exact .inl h
  · exact .inr ⟨b, off, cap, rfl, fun j hj => cell_later hb (hc j hj)⟩

theorem Reads16.of_owns {w : World} {B n : Nat} {v : Value} {zs : List Int} (h : w.ownsRow B 27 1 v n (u16Vals zs)) : Reads16 w v zs := by
  have hn : zs.length = n := by have := h.1; simp [u16Vals] at this; omega
  subst hn
  rcases h.2 with ⟨rfl, h0⟩ | ⟨g, cap, cur, rfl, _, hg, _⟩
  · exact .inl ⟨List.eq_nil_of_length_eq_zero h0, none, 0, rfl⟩
  · refine .inr ⟨g, 0, cap, rfl, fun j hj => ?_⟩
    have := h.cellAt j (by omega)
    rw [Nat.zero_add, this]
    simp [u16Vals, List.getD, List.getElem?_eq_getElem hj]

set_option maxHeartbeats 400000 in
theorem same_len (ad bd : Option Addr) (n m ca cb : Nat) (w : World) (h : ¬ n = m) :
    Calls Tryd.prog 7 #[.slice ad n ca, .slice bd m cb] w fun e w' => e = .returned (.bool false) ∧ w = w' := by
  have hn : ((n : Int) == (m : Int)) = false := by rw [beq_eq_false_iff_ne]; omega
  go_enter Tryd.func7, Tryd.ntmps7
  go_wp2
  go_ret
  exact ⟨rfl, rfl⟩

set_option maxHeartbeats 400000 in
theorem same_nil (ad bd : Option Addr) (ca cb : Nat) (w : World) :
    Calls Tryd.prog 7 #[.slice ad 0 ca, .slice bd 0 cb] w fun e w' => e = .returned (.bool true) ∧ w = w' := by
  go_enter Tryd.func7, Tryd.ntmps7
  go_wp2_with fail
  refine wp_loop_rounds 1 ?_
  rw [rounds_succ]
  go_wp2
  go_ret
  exact ⟨rfl, rfl⟩

set_option maxHeartbeats 400000 in
theorem same_full (a oa ca b ob cb : Nat) (za zb : List Int) (w : World) (hl : zb.length = za.length) (hz : za.length ≤ 1000000000)
    (hca : ∀ j, j < za.length → w.cell? ⟨a, oa + j, none⟩ = some (.int .u16 (za.getD j 0)))
    (hcb : ∀ j, j < za.length → w.cell? ⟨b, ob + j, none⟩ = some (.int .u16 (zb.getD j 0))) :
    Calls Tryd.prog 7 #[.slice (some ⟨a, oa, none⟩) za.length ca, .slice (some ⟨b, ob, none⟩) za.length cb] w fun e w' => e = .returned (.bool (za == zb)) ∧ ∃ q, w' = w.drewN q := by
  go_enter Tryd.func7, Tryd.ntmps7
  go_wp2_with fail
  go_loopw [5] (fun i wr => ∃ k : Nat, k ≤ za.length ∧ i = .int .i64 k ∧ (∀ j, j < k → za.getD j 0 = zb.getD j 0) ∧ ∃ q, wr = w.drewN q) (fun i _ => za.length - (RowKit.intOf i).toNat)
  case atStart => exact ⟨0, Nat.zero_le _, rfl, fun j hj => absurd hj (by omega), 0, rfl⟩
  case round =>
    obtain ⟨k, hk, rfl, heq, q, rfl⟩ := hrel
    by_cases hlt : k < za.length
    · have c1 := hca k hlt
      have c2 := hcb k hlt
      have c1' : (w.drewN q).cell? ⟨a, oa + k, none⟩ = some (.int .u16 (za.getD k 0)) := by simpa using c1
      obtain ⟨U, hU⟩ : ∃ U, za.getD k 0 = U := ⟨_, rfl⟩
      obtain ⟨V, hV⟩ : ∃ V, zb.getD k 0 = V := ⟨_, rfl⟩
      rw [hU] at c1
      rw [hV] at c2
      have HU := hideIt hU
      have HV := hideIt hV
      have Heq := hideIt heq
      clear hU hV heq hca hcb
      by_cases hUV : U = V
      · have hb : (U != V) = false := by simp [hUV]
        have HUV := hideIt hUV
        clear hUV
        go_wp2
        go_quiet (fail)
        go_wp2
        go_roundw
        case rel =>
          refine ⟨k + 1, by omega, by go_num, ?_, _, rfl⟩
          intro j hj
          by_cases hjk : j = k
          · subst hjk; rw [HU.out, HV.out]; exact HUV.out
          · exact Heq.out j (by omega)
        case measure => simp [RowKit.intOf]; omega
      · have hb : (U != V) = true := by simp [hUV]
        have hne : (za == zb) = false := by
          rw [beq_eq_false_iff_ne]
          intro h
          rw [h] at HU
          exact hUV (HU.out.symm.trans HV.out)
        have Hne := hideIt hne
        clear hne hUV
        go_wp2
        go_quiet (fail)
        go_wp2
        go_ret
        exact ⟨ret_bool (Hne.out.symm), _, World.drewN_drewN w q _⟩
    · have heq' : (za == zb) = true := by
        rw [beq_iff_eq]
        apply List.ext_getElem (by omega)
        intro j h1 h2
        have := heq j (by omega)
        simpa [List.getD, List.getElem?_eq_getElem h1, List.getElem?_eq_getElem h2] using this
      have Heq' := hideIt heq'
      clear heq heq' hca hcb
      go_wp2
      go_ret
      exact ⟨ret_bool (Heq'.out.symm), _, rfl⟩

theorem same_any (va vb : Value) (za zb : List Int) (w : World) (hz : za.length ≤ 1000000000) (ha : Reads16 w va za) (hb : Reads16 w vb zb) :
    Calls Tryd.prog 7 #[va, vb] w fun e w' => e = .returned (.bool (za == zb)) ∧ ∃ q, w' = w.drewN q := by
  by_cases hl : zb.length = za.length
  · rcases ha with ⟨rfl, ad, ca, rfl⟩ | ⟨a, oa, ca, rfl, hca⟩
    · obtain ⟨bd, cb, rfl⟩ := hb.shape
      obtain rfl : zb = [] := List.eq_nil_of_length_eq_zero (by simpa using hl)
      exact (same_nil ad bd ca cb w).mono fun e w' ⟨h1, h2⟩ => ⟨h1, 0, h2.symm⟩
    · rcases hb with ⟨rfl, bd, cb, rfl⟩ | ⟨b, ob, cb, rfl, hcb⟩
      · obtain rfl : za = [] := List.eq_nil_of_length_eq_zero (by simpa using hl.symm)
        exact (same_nil (some ⟨a, oa, none⟩) bd ca cb w).mono fun e w' ⟨h1, h2⟩ => ⟨h1, 0, h2.symm⟩
      · rw [hl] at hcb ⊢
        exact same_full a oa ca b ob cb za zb w hl hz hca hcb
  · obtain ⟨ad, ca, rfl⟩ := ha.shape
    obtain ⟨bd, cb, rfl⟩ := hb.shape
    refine (same_len ad bd za.length zb.length ca cb w (fun h => hl h.symm)).mono fun e w' ⟨h1, h2⟩ => ⟨?_, 0, h2.symm⟩
    rw [h1, show (za == zb) = false from by rw [beq_eq_false_iff_ne]; intro h; exact hl (by rw [h])]

end Go.Proofs.YtdijkobiffhgcaaDoor.Un
