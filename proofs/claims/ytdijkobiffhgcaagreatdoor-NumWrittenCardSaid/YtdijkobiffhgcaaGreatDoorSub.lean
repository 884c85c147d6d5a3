/-
  The reference's Sub, walked (printed by gen_sub.py). Conditions: at most 400000 digits each; what is taken away is not the greater.
-/
import Derived.Test.YtdijkobiffhgcaaGreatDoorAddW
namespace Go.Proofs.YtdijkobiffhgcaaGreatDoor.Nu
open Go.RowKit Go.Lib

structure SubAt (a b acc : List Nat) (i c : Nat) : Prop where
  len : acc.length = i
  dig : ∀ d ∈ acc, d < 65536
  carry : c ≤ 1
  eq : val acc + val b + 65536 ^ i * val (a.drop i) = val a + 65536 ^ i * (c + val (b.drop i))

theorem SubAt.start (a b : List Nat) : SubAt a b [] 0 0 := ⟨rfl, fun d h => (by cases h), by omega, by simp [val]; omega⟩
theorem SubAt.step {a b acc : List Nat} {i c : Nat} (h : SubAt a b acc i c) (ha : ∀ d ∈ a, d < 65536) (hb : ∀ d ∈ b, d < 65536) (x : Nat) (hx : x = a.getD i 0 + 65536 - c - b.getD i 0) :
    SubAt a b (acc ++ [x % 65536]) (i + 1) (1 - x / 65536) := by
  have h1 := getD_lt a ha i
  have h2 := getD_lt b hb i
  have hc := h.carry
  refine ⟨by simp [h.len], ?_, by omega, ?_⟩
  · intro d hd
    rcases List.mem_append.1 hd with hd | hd
    · exact h.dig d hd
    · simp at hd; omega
  · have e := h.eq
    rw [val_drop' a i, val_drop' b i] at e
    rw [val_append, h.len, Nat.pow_succ]
    obtain ⟨p, hp⟩ : ∃ p, 65536 ^ i = p := ⟨_, rfl⟩
    obtain ⟨A, hA⟩ : ∃ A, val (a.drop (i + 1)) = A := ⟨_, rfl⟩
    obtain ⟨B, hB⟩ : ∃ B, val (b.drop (i + 1)) = B := ⟨_, rfl⟩
    obtain ⟨U, hU⟩ : ∃ U, a.getD i 0 = U := ⟨_, rfl⟩
    obtain ⟨V, hV⟩ : ∃ V, b.getD i 0 = V := ⟨_, rfl⟩
    rw [hU] at h1 hx
    rw [hV] at h2 hx
    rw [hp, hA, hB, hU, hV] at e
    rw [hp, hA, hB]
    show val acc + p * (x % 65536 + 65536 * 0) + val b + p * 65536 * A = val a + p * 65536 * (1 - x / 65536 + B)
    have k : (x % 65536 + 65536 * 0 + 65536 * A) + (c + (V + 65536 * B)) = (U + 65536 * A) + 65536 * (1 - x / 65536 + B) := by omega
    have k2 := congrArg (p * ·) k
    simp only [Nat.mul_add] at k2 e ⊢
    simp only [← Nat.mul_assoc] at k2 e ⊢
    omega
theorem SubAt.done {a b acc : List Nat} {i c : Nat} (h : SubAt a b acc i c) (h1 : i = a.length) (hle : val b ≤ val a) : val acc = val a - val b := by
  have e := h.eq
  rw [val_drop_end a i (by omega), Nat.mul_zero] at e
  have l := val_lt acc h.dig
  rw [h.len] at l
  rcases Nat.eq_zero_or_pos (c + val (b.drop i)) with h0 | h0
  · rw [h0, Nat.mul_zero] at e; omega
  · have := Nat.mul_le_mul_left (65536 ^ i) h0
    omega

set_option maxRecDepth 100000 in
set_option maxHeartbeats 4000000 in
theorem sub_lists (ad bd : Option Addr) (ca cb : Nat) (a b : List Nat) (w : World) (hza : a.length ≤ 400000) (hda : ∀ d ∈ a, d < 65536) (hdb : ∀ d ∈ b, d < 65536)
    (ha : RdAt w ad a) (hb : RdAt w bd b) (hle : val b ≤ val a) :
    Calls Tryz.prog 63 #[.slice ad a.length ca, .slice bd b.length cb] w fun e w' => ∃ v, e = .returned v ∧ IsN w' v (val a - val b) ∧ Below w.heap.size w w' := by
  obtain ⟨i0, hi, hz0, hz1, hz2⟩ := info_parts info59
  have HA := hideIt ha
  have HB := hideIt hb
  have DA := hideIt hda
  have DB := hideIt hdb
  have HL := hideIt hle
  clear ha hb hda hdb hle
  go_enter Tryz.func63, Tryz.ntmps63
  go_wp2_with fail
  go_loopw [5, 6, 7] (fun v cv i wr => ∃ (k c : Nat) (acc : List Nat), cv = .int .u32 c ∧ i = .int .i64 k ∧ SubAt a b acc k c ∧ wr.ownsRow w.heap.size 59 1 v acc.length (dVals acc) ∧ k ≤ a.length ∧ Below w.heap.size w wr)
    (fun _ _ i _ => a.length - (RowKit.intOf i).toNat)
  case atStart => exact ⟨0, 0, [], rfl, rfl, SubAt.start a b, World.ownsRow_nil _ _ _ _, by omega, Below.refl _ _⟩
  case round =>
    obtain ⟨k, c, acc, rfl, rfl, hsub0, hown, hk, hnx⟩ := hrel
    have hc1 : c ≤ 1 := hsub0.carry
    have hlen0 : acc.length = k := hsub0.len
    have hal : acc.length ≤ 800002 := by omega
    clear hlen0
    have hsub := hideIt hsub0
    have hB0 : w.heap.size ≤ wr.heap.size := hnx.size
    clear hsub0
    by_cases hA : k < a.length
    · by_cases hB : k < b.length
      · obtain ⟨U, hU⟩ : ∃ U, a.getD k 0 = U := ⟨_, rfl⟩
        obtain ⟨V, hV⟩ : ∃ V, b.getD k 0 = V := ⟨_, rfl⟩
        have hUl : U < 65536 := by rw [← hU]; exact getD_lt a DA.out k
        have hVl : V < 65536 := by rw [← hV]; exact getD_lt b DB.out k
        obtain ⟨ba, oa, rfl, hca⟩ := HA.out k hA
        have c1 : wr.cell? ⟨ba, oa + k, none⟩ = some (.int .u32 (U : Int)) := by rw [← hU]; exact (hnx.cell (World.block_lt_of_cell? w _ hca)).trans hca
        clear hca
        obtain ⟨bb, ob, rfl, hcb⟩ := HB.out k hB
        have c2 : wr.cell? ⟨bb, ob + k, none⟩ = some (.int .u32 (V : Int)) := by rw [← hV]; exact (hnx.cell (World.block_lt_of_cell? w _ hcb)).trans hcb
        clear hcb
        obtain ⟨x, hx⟩ : ∃ x, U + 65536 - c - V = x := ⟨_, rfl⟩
        have hst := hideIt (hsub.out.step DA.out DB.out x (by rw [hU, hV]; omega))
        have g0 : IntKind.u32.wrap ((U : Int) + 65536) = (U : Int) + 65536 := by have := u32_in ((U : Int) + 65536) (U + 65536) (by omega) (by omega); rw [this]; omega
        have g1 : IntKind.u32.wrap ((U : Int) + 65536 - c) = (U : Int) + 65536 - c := by have := u32_in ((U : Int) + 65536 - c) (U + 65536 - c) (by omega) (by omega); rw [this]; omega
        have g2 : IntKind.u32.wrap ((U : Int) + 65536 - c - V) = (x : Int) := u32_in _ _ (by omega) (by omega)
        obtain ⟨d, hd⟩ : ∃ d, x % 65536 = d := ⟨_, rfl⟩
        obtain ⟨r, hr⟩ : ∃ r, x / 65536 = r := ⟨_, rfl⟩
        obtain ⟨q, hq⟩ : ∃ q, 1 - r = q := ⟨_, rfl⟩
        have g3 : (x : Int) % 65536 = (d : Int) := by omega
        have g4 : IntKind.u32.wrap ((x : Int) / 65536) = (r : Int) := u32_in _ _ (by omega) (by omega)
        have g6 : IntKind.u32.wrap (1 - (r : Int)) = (q : Int) := u32_in _ _ (by omega) (by omega)
        rw [hd, hr, hq] at hst
        have g5 : IntKind.i64.wrap ((k : Int) + 1) = (k : Int) + 1 := IntWalk.i64_in _ (by omega)
        clear hU hV hUl hVl hd hq hr hx
        go_wp2_with (at_builtin; refine wpList_append_own _ rfl _ _ 36 rfl w.heap.size 59 i0 (.int .u32 0) 1 4 Tryz.underlying36 hi hz0 hz1 hz2 rfl (by decide) _ _ _ rfl (hown.alloc _) ⟨wr.heap.size, 0, none⟩ 1 1 (dVals [d]) rfl rfl ?c1 ?c2 ?c3 ?c4 ?c5 ?_)
        case c1 => first | exact cells_new _ _ _ | (intro j u hj; simpa [dVals] using hj)
        case c2 => intro u hu; simp [dVals] at hu; subst hu; rfl
        case c3 => unfold maxLen; omega
        case c4 => omega
        case c5 => first | omega | (simp; omega)
        intro v' w2 hown' hgrow _
        have hs := owns_step32 (zs := [d]) rfl hown'
        have hb2 := below_step hnx hB0 hown hgrow
        clear hown' hgrow hown
        go_wp2
        refine ⟨⟨k + 1, q, acc ++ [d], rfl, by first | rfl | go_num, hst.out, hs, by omega, hb2⟩, ?_⟩
        simp only [RowKit.intOf]
        omega
      · obtain ⟨U, hU⟩ : ∃ U, a.getD k 0 = U := ⟨_, rfl⟩
        obtain ⟨V, hV⟩ : ∃ V, b.getD k 0 = V := ⟨_, rfl⟩
        have hUl : U < 65536 := by rw [← hU]; exact getD_lt a DA.out k
        have hVl : V < 65536 := by rw [← hV]; exact getD_lt b DB.out k
        obtain ⟨ba, oa, rfl, hca⟩ := HA.out k hA
        have c1 : wr.cell? ⟨ba, oa + k, none⟩ = some (.int .u32 (U : Int)) := by rw [← hU]; exact (hnx.cell (World.block_lt_of_cell? w _ hca)).trans hca
        clear hca
        have hV0 : V = 0 := by rw [← hV]; exact getD_end b k (by omega)
        obtain ⟨x, hx⟩ : ∃ x, U + 65536 - c - V = x := ⟨_, rfl⟩
        have hst := hideIt (hsub.out.step DA.out DB.out x (by rw [hU, hV]; omega))
        have g0 : IntKind.u32.wrap ((U : Int) + 65536) = (U : Int) + 65536 := by have := u32_in ((U : Int) + 65536) (U + 65536) (by omega) (by omega); rw [this]; omega
        have g1 : IntKind.u32.wrap ((U : Int) + 65536 - c) = (x : Int) := u32_in _ _ (by omega) (by omega)
        obtain ⟨d, hd⟩ : ∃ d, x % 65536 = d := ⟨_, rfl⟩
        obtain ⟨r, hr⟩ : ∃ r, x / 65536 = r := ⟨_, rfl⟩
        obtain ⟨q, hq⟩ : ∃ q, 1 - r = q := ⟨_, rfl⟩
        have g3 : (x : Int) % 65536 = (d : Int) := by omega
        have g4 : IntKind.u32.wrap ((x : Int) / 65536) = (r : Int) := u32_in _ _ (by omega) (by omega)
        have g6 : IntKind.u32.wrap (1 - (r : Int)) = (q : Int) := u32_in _ _ (by omega) (by omega)
        rw [hd, hr, hq] at hst
        have g5 : IntKind.i64.wrap ((k : Int) + 1) = (k : Int) + 1 := IntWalk.i64_in _ (by omega)
        clear hU hV hUl hVl hd hq hr hx
        have hB' : ¬ (k : Int) < b.length := by omega
        go_wp2_with (at_builtin; refine wpList_append_own _ rfl _ _ 36 rfl w.heap.size 59 i0 (.int .u32 0) 1 4 Tryz.underlying36 hi hz0 hz1 hz2 rfl (by decide) _ _ _ rfl (hown.alloc _) ⟨wr.heap.size, 0, none⟩ 1 1 (dVals [d]) rfl rfl ?c1 ?c2 ?c3 ?c4 ?c5 ?_)
        case c1 => first | exact cells_new _ _ _ | (intro j u hj; simpa [dVals] using hj)
        case c2 => intro u hu; simp [dVals] at hu; subst hu; rfl
        case c3 => unfold maxLen; omega
        case c4 => omega
        case c5 => first | omega | (simp; omega)
        intro v' w2 hown' hgrow _
        have hs := owns_step32 (zs := [d]) rfl hown'
        have hb2 := below_step hnx hB0 hown hgrow
        clear hown' hgrow hown
        go_wp2
        refine ⟨⟨k + 1, q, acc ++ [d], rfl, by first | rfl | go_num, hst.out, hs, by omega, hb2⟩, ?_⟩
        simp only [RowKit.intOf]
        omega
    · have hA' : ¬ (k : Int) < a.length := by omega
      have hv := hsub.out.done (by omega) HL.out
      have cC := cut_reads _ acc wr (by omega) hsub.out.dig (Reads32.of_owns hown)
      rw [hv] at cC
      clear hv hown
      go_wp2_with fail
      refine cC.mono ?_
      rintro e w2 ⟨v, rfl, hN, hb2⟩
      go_wp2_with fail
      go_ret
      exact ⟨_, rfl, hN, hnx.trans (hb2.mono hB0)⟩

theorem sub_any (va vb : Value) (X Y : Nat) (w : World) (hx : (dg X).length ≤ 400000) (ha : IsN w va X) (hb : IsN w vb Y) (hle : Y ≤ X) :
    Calls Tryz.prog 63 #[va, vb] w fun e w' => ∃ v, e = .returned v ∧ IsN w' v (X - Y) ∧ Below w.heap.size w w' := by
  obtain ⟨ad, ca, rfl, h1⟩ := Reads32.at ha
  obtain ⟨bd, cb, rfl, h2⟩ := Reads32.at hb
  have := sub_lists ad bd ca cb (dg X) (dg Y) w hx (dg_digit X) (dg_digit Y) h1 h2 (by rw [val_dg, val_dg]; exact hle)
  rwa [val_dg, val_dg] at this
end Go.Proofs.YtdijkobiffhgcaaGreatDoor.Nu
