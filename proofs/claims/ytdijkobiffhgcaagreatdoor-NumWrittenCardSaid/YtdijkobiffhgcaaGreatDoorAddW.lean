/-
  The reference's Add, walked (printed by gen_add.py). Conditions: at most 1000000 digits each.
-/
import Derived.Test.YtdijkobiffhgcaaGreatDoorLimb
namespace Go.Proofs.YtdijkobiffhgcaaGreatDoor.Nu
open Go.RowKit Go.Lib

theorem u32_in (z : Int) (n : Nat) (h : z = n) (h2 : (n : Int) < 4294967296) : IntKind.u32.wrap z = (n : Int) := by
  subst h
  exact Int.emod_eq_of_lt (by omega) (by show (n : Int) < 4294967296; omega)

def addM (la lb : Nat) (c i : Value) : Nat := 2 * ((la - (RowKit.intOf i).toNat) + (lb - (RowKit.intOf i).toNat)) + (RowKit.intOf c).toNat

set_option maxRecDepth 100000 in
set_option maxHeartbeats 4000000 in
theorem add_lists (ad bd : Option Addr) (ca cb : Nat) (a b : List Nat) (w : World) (hza : a.length ≤ 400000) (hzb : b.length ≤ 400000) (hda : ∀ d ∈ a, d < 65536) (hdb : ∀ d ∈ b, d < 65536)
    (ha : RdAt w ad a) (hb : RdAt w bd b) :
    Calls Tryz.prog 39 #[.slice ad a.length ca, .slice bd b.length cb] w fun e w' => ∃ v, e = .returned v ∧ IsN w' v (val a + val b) ∧ Below w.heap.size w w' := by
  obtain ⟨i0, hi, hz0, hz1, hz2⟩ := info_parts info59
  have HA := hideIt ha
  have HB := hideIt hb
  have DA := hideIt hda
  have DB := hideIt hdb
  clear ha hb hda hdb
  go_enter Tryz.func39, Tryz.ntmps39
  go_wp2_with fail
  go_loopw [5, 6, 7] (fun v cv i wr => ∃ (k c : Nat) (acc : List Nat), cv = .int .u32 c ∧ i = .int .i64 k ∧ AddAt a b acc k c ∧ wr.ownsRow w.heap.size 59 1 v acc.length (dVals acc) ∧ (k ≤ a.length ∨ k ≤ b.length ∨ (c = 0 ∧ (k ≤ a.length + 1 ∨ k ≤ b.length + 1))) ∧ Below w.heap.size w wr)
    (fun _ cv i _ => addM a.length b.length cv i)
  case atStart => exact ⟨0, 0, [], rfl, rfl, AddAt.start a b, World.ownsRow_nil _ _ _ _, by omega, Below.refl _ _⟩
  case round =>
    obtain ⟨k, c, acc, rfl, rfl, hadd0, hown, hk, hnx⟩ := hrel
    have hc1 : c ≤ 1 := hadd0.carry
    have hlen0 : acc.length = k := hadd0.len
    have hal : acc.length ≤ 800002 := by omega
    clear hlen0
    have hadd := hideIt hadd0
    have hB0 : w.heap.size ≤ wr.heap.size := hnx.size
    clear hadd0
    by_cases hA : k < a.length
    · by_cases hB : k < b.length
      · obtain ⟨U, hU⟩ : ∃ U, a.getD k 0 = U := ⟨_, rfl⟩
        obtain ⟨V, hV⟩ : ∃ V, b.getD k 0 = V := ⟨_, rfl⟩
        have hUl : U < 65536 := by rw [← hU]; exact getD_lt a DA.out k
        have hVl : V < 65536 := by rw [← hV]; exact getD_lt b DB.out k
        obtain ⟨ba, oa, rfl, hca⟩ := HA.out k hA
        have c1 : wr.cell? ⟨ba, oa + k, none⟩ = some (.int .u32 (U : Int)) := by rw [← hU]; exact (hnx.cell (World.block_lt_of_cell? w _ hca)).trans hca
        clear hca
        obtain ⟨bb, ob, rfl, hcb⟩ := HB.out k hB
        have c2 : wr.cell? ⟨bb, ob + k, none⟩ = some (.int .u32 (V : Int)) := by rw [← hV]; exact (hnx.cell (World.block_lt_of_cell? w _ hcb)).trans hcb
        clear hcb
        obtain ⟨x, hx⟩ : ∃ x, c + U + V = x := ⟨_, rfl⟩
        have hst := hideIt (hadd.out.step DA.out DB.out x (by rw [hU, hV]; omega))
        have g1 : IntKind.u32.wrap ((c : Int) + U) = (c : Int) + U := by have := u32_in ((c : Int) + U) (c + U) (by omega) (by omega); rw [this]; omega
        have g2 : IntKind.u32.wrap ((c : Int) + U + V) = (x : Int) := u32_in _ _ (by omega) (by omega)
        obtain ⟨d, hd⟩ : ∃ d, x % 65536 = d := ⟨_, rfl⟩
        obtain ⟨q, hq⟩ : ∃ q, x / 65536 = q := ⟨_, rfl⟩
        have g3 : (x : Int) % 65536 = (d : Int) := by omega
        have g4 : IntKind.u32.wrap ((x : Int) / 65536) = (q : Int) := u32_in _ _ (by omega) (by omega)
        rw [hd, hq] at hst
        have hq1 : q ≤ 1 := by omega
        have g5 : IntKind.i64.wrap ((k : Int) + 1) = (k : Int) + 1 := IntWalk.i64_in _ (by omega)
        have HX := hideIt hq
        clear hU hV hUl hVl hd hq hx
        go_wp2_with (at_builtin; refine wpList_append_own _ rfl _ _ 36 rfl w.heap.size 59 i0 (.int .u32 0) 1 4 Tryz.underlying36 hi hz0 hz1 hz2 rfl (by decide) _ _ _ rfl (hown.alloc _) ⟨wr.heap.size, 0, none⟩ 1 1 (dVals [d]) rfl rfl ?c1 ?c2 ?c3 ?c4 ?c5 ?_)
        case c1 => first | exact cells_new _ _ _ | (intro j u hj; simpa [dVals] using hj)
        case c2 => intro u hu; simp [dVals] at hu; subst hu; rfl
        case c3 => unfold maxLen; omega
        case c4 => omega
        case c5 => first | omega | (simp; omega)
        intro v' w2 hown' hgrow _
        have hs := owns_step32 (zs := [d]) rfl hown'
        have hb2 := below_step hnx hB0 hown hgrow
        clear hown' hgrow hown
        go_wp2
        refine ⟨⟨k + 1, q, acc ++ [d], rfl, by first | rfl | go_num, hst.out, hs, by omega, hb2⟩, ?_⟩
        simp only [addM, RowKit.intOf]
        simp
        omega
      · obtain ⟨U, hU⟩ : ∃ U, a.getD k 0 = U := ⟨_, rfl⟩
        obtain ⟨V, hV⟩ : ∃ V, b.getD k 0 = V := ⟨_, rfl⟩
        have hUl : U < 65536 := by rw [← hU]; exact getD_lt a DA.out k
        have hVl : V < 65536 := by rw [← hV]; exact getD_lt b DB.out k
        obtain ⟨ba, oa, rfl, hca⟩ := HA.out k hA
        have c1 : wr.cell? ⟨ba, oa + k, none⟩ = some (.int .u32 (U : Int)) := by rw [← hU]; exact (hnx.cell (World.block_lt_of_cell? w _ hca)).trans hca
        clear hca
        have hV0 : V = 0 := by rw [← hV]; exact getD_end b k (by omega)
        obtain ⟨x, hx⟩ : ∃ x, c + U = x := ⟨_, rfl⟩
        have hst := hideIt (hadd.out.step DA.out DB.out x (by rw [hU, hV]; omega))
        have g1 : IntKind.u32.wrap ((c : Int) + U) = (x : Int) := u32_in _ _ (by omega) (by omega)
        obtain ⟨d, hd⟩ : ∃ d, x % 65536 = d := ⟨_, rfl⟩
        obtain ⟨q, hq⟩ : ∃ q, x / 65536 = q := ⟨_, rfl⟩
        have g3 : (x : Int) % 65536 = (d : Int) := by omega
        have g4 : IntKind.u32.wrap ((x : Int) / 65536) = (q : Int) := u32_in _ _ (by omega) (by omega)
        rw [hd, hq] at hst
        have hq1 : q ≤ 1 := by omega
        have g5 : IntKind.i64.wrap ((k : Int) + 1) = (k : Int) + 1 := IntWalk.i64_in _ (by omega)
        have HX := hideIt hq
        clear hU hV hUl hVl hd hq hx
        have hB' : ¬ (k : Int) < b.length := by omega
        go_wp2_with (at_builtin; refine wpList_append_own _ rfl _ _ 36 rfl w.heap.size 59 i0 (.int .u32 0) 1 4 Tryz.underlying36 hi hz0 hz1 hz2 rfl (by decide) _ _ _ rfl (hown.alloc _) ⟨wr.heap.size, 0, none⟩ 1 1 (dVals [d]) rfl rfl ?c1 ?c2 ?c3 ?c4 ?c5 ?_)
        case c1 => first | exact cells_new _ _ _ | (intro j u hj; simpa [dVals] using hj)
        case c2 => intro u hu; simp [dVals] at hu; subst hu; rfl
        case c3 => unfold maxLen; omega
        case c4 => omega
        case c5 => first | omega | (simp; omega)
        intro v' w2 hown' hgrow _
        have hs := owns_step32 (zs := [d]) rfl hown'
        have hb2 := below_step hnx hB0 hown hgrow
        clear hown' hgrow hown
        go_wp2
        refine ⟨⟨k + 1, q, acc ++ [d], rfl, by first | rfl | go_num, hst.out, hs, by omega, hb2⟩, ?_⟩
        simp only [addM, RowKit.intOf]
        simp
        omega
    · by_cases hB : k < b.length
      · obtain ⟨U, hU⟩ : ∃ U, a.getD k 0 = U := ⟨_, rfl⟩
        obtain ⟨V, hV⟩ : ∃ V, b.getD k 0 = V := ⟨_, rfl⟩
        have hUl : U < 65536 := by rw [← hU]; exact getD_lt a DA.out k
        have hVl : V < 65536 := by rw [← hV]; exact getD_lt b DB.out k
        have hU0 : U = 0 := by rw [← hU]; exact getD_end a k (by omega)
        obtain ⟨bb, ob, rfl, hcb⟩ := HB.out k hB
        have c2 : wr.cell? ⟨bb, ob + k, none⟩ = some (.int .u32 (V : Int)) := by rw [← hV]; exact (hnx.cell (World.block_lt_of_cell? w _ hcb)).trans hcb
        clear hcb
        obtain ⟨x, hx⟩ : ∃ x, c + V = x := ⟨_, rfl⟩
        have hst := hideIt (hadd.out.step DA.out DB.out x (by rw [hU, hV]; omega))
        have g2 : IntKind.u32.wrap ((c : Int) + V) = (x : Int) := u32_in _ _ (by omega) (by omega)
        obtain ⟨d, hd⟩ : ∃ d, x % 65536 = d := ⟨_, rfl⟩
        obtain ⟨q, hq⟩ : ∃ q, x / 65536 = q := ⟨_, rfl⟩
        have g3 : (x : Int) % 65536 = (d : Int) := by omega
        have g4 : IntKind.u32.wrap ((x : Int) / 65536) = (q : Int) := u32_in _ _ (by omega) (by omega)
        rw [hd, hq] at hst
        have hq1 : q ≤ 1 := by omega
        have g5 : IntKind.i64.wrap ((k : Int) + 1) = (k : Int) + 1 := IntWalk.i64_in _ (by omega)
        have HX := hideIt hq
        clear hU hV hUl hVl hd hq hx
        have hA' : ¬ (k : Int) < a.length := by omega
        go_wp2_with (at_builtin; refine wpList_append_own _ rfl _ _ 36 rfl w.heap.size 59 i0 (.int .u32 0) 1 4 Tryz.underlying36 hi hz0 hz1 hz2 rfl (by decide) _ _ _ rfl (hown.alloc _) ⟨wr.heap.size, 0, none⟩ 1 1 (dVals [d]) rfl rfl ?c1 ?c2 ?c3 ?c4 ?c5 ?_)
        case c1 => first | exact cells_new _ _ _ | (intro j u hj; simpa [dVals] using hj)
        case c2 => intro u hu; simp [dVals] at hu; subst hu; rfl
        case c3 => unfold maxLen; omega
        case c4 => omega
        case c5 => first | omega | (simp; omega)
        intro v' w2 hown' hgrow _
        have hs := owns_step32 (zs := [d]) rfl hown'
        have hb2 := below_step hnx hB0 hown hgrow
        clear hown' hgrow hown
        go_wp2
        refine ⟨⟨k + 1, q, acc ++ [d], rfl, by first | rfl | go_num, hst.out, hs, by omega, hb2⟩, ?_⟩
        simp only [addM, RowKit.intOf]
        simp
        omega
      · by_cases hc : c = 1
        · subst hc
          have hU0 : a.getD k 0 = 0 := getD_end a k (by omega)
          have hV0 : b.getD k 0 = 0 := getD_end b k (by omega)
          have hst : Hid (AddAt a b (acc ++ [1]) (k + 1) 0) := hideIt (hadd.out.step DA.out DB.out 1 (by rw [hU0, hV0]))
          have g5 : IntKind.i64.wrap ((k : Int) + 1) = (k : Int) + 1 := IntWalk.i64_in _ (by omega)
          clear hU0 hV0
          have hA' : ¬ (k : Int) < a.length := by omega
          have hB' : ¬ (k : Int) < b.length := by omega
          go_wp2_with (at_builtin; refine wpList_append_own _ rfl _ _ 36 rfl w.heap.size 59 i0 (.int .u32 0) 1 4 Tryz.underlying36 hi hz0 hz1 hz2 rfl (by decide) _ _ _ rfl (hown.alloc _) ⟨wr.heap.size, 0, none⟩ 1 1 (dVals [1]) rfl rfl ?c1 ?c2 ?c3 ?c4 ?c5 ?_)
          case c1 => first | exact cells_new _ _ _ | (intro j u hj; simpa [dVals] using hj)
          case c2 => intro u hu; simp [dVals] at hu; subst hu; rfl
          case c3 => unfold maxLen; omega
          case c4 => omega
          case c5 => first | omega | (simp; omega)
          intro v' w2 hown' hgrow _
          have hs := owns_step32 (zs := [1]) rfl hown'
          have hb2 := below_step hnx hB0 hown hgrow
          clear hown' hgrow hown
          go_wp2
          refine ⟨⟨k + 1, 0, acc ++ [1], rfl, by first | rfl | go_num, hst.out, hs, by omega, hb2⟩, ?_⟩
          simp only [addM, RowKit.intOf]
          simp
          omega
        · obtain rfl : c = 0 := by omega
          have hA' : ¬ (k : Int) < a.length := by omega
          have hB' : ¬ (k : Int) < b.length := by omega
          have hv := hadd.out.done (by omega) (by omega)
          have cC := cut_reads _ acc wr (by omega) hadd.out.dig (Reads32.of_owns hown)
          rw [hv] at cC
          clear hv hown
          go_wp2_with fail
          refine cC.mono ?_
          rintro e w2 ⟨v, rfl, hN, hb2⟩
          go_wp2_with fail
          go_ret
          exact ⟨_, rfl, hN, hnx.trans (hb2.mono hB0)⟩

theorem add_any (va vb : Value) (X Y : Nat) (w : World) (hx : (dg X).length ≤ 400000) (hy : (dg Y).length ≤ 400000) (ha : IsN w va X) (hb : IsN w vb Y) :
    Calls Tryz.prog 39 #[va, vb] w fun e w' => ∃ v, e = .returned v ∧ IsN w' v (X + Y) ∧ Below w.heap.size w w' := by
  obtain ⟨ad, ca, rfl, h1⟩ := Reads32.at ha
  obtain ⟨bd, cb, rfl, h2⟩ := Reads32.at hb
  have := add_lists ad bd ca cb (dg X) (dg Y) w hx hy (dg_digit X) (dg_digit Y) h1 h2
  rwa [val_dg, val_dg] at this
end Go.Proofs.YtdijkobiffhgcaaGreatDoor.Nu
