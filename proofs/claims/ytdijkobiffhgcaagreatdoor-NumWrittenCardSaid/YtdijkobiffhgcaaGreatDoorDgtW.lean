/-
  The program's digits: strconv's text cut at 'e', read, the point struck. Conditions: the tables lie as told.
-/
import Derived.Test.YtdijkobiffhgcaaGreatDoorSidW
import Derived.Test.YtdijkobiffhgcaaGreatDoorDigT
namespace Go.Proofs.YtdijkobiffhgcaaGreatDoor.Nu
open Go.RowKit Go.Lib

/-- what the program's side wants of the world. -/
structure Laid (w : World) : Prop where
  pt : PTab w
  tt : Lib.TabIs Tryz.prog w "internal/strconv.uint64pow10" .u64 Lib.pow10Tab
  ml : ∃ m, w.cell? ⟨2, 0, none⟩ = some (.int .i64 m)

theorem cell_lt {w : World} {m : Int} (h : w.cell? ⟨2, 0, none⟩ = some (.int .i64 m)) : 2 < w.heap.size := by
  rcases Nat.lt_or_ge 2 w.heap.size with g | g
  · exact g
  · have : w.heap[2]? = none := Array.getElem?_eq_none g
    unfold World.cell? at h
    rw [this] at h
    cases h

theorem Laid.later {w w' : World} (h : Laid w) (hb : Below w.heap.size w w') : Laid w' := by
  obtain ⟨m, hm⟩ := h.ml
  refine ⟨Joins.tab_stays global8 h.pt hb (Nat.le_refl _), Joins.tab_stays global7 h.tt hb (Nat.le_refl _), m, ?_⟩
  rw [hb.cell (show (⟨2, 0, none⟩ : Addr).block < w.heap.size from cell_lt hm)]
  exact hm

theorem mText_sz (l : List UInt8) (h : l.length ≤ 20) : (bs (mText l)).size ≤ 21 := by
  rw [bs_size]; have := mText_len l; omega

set_option maxRecDepth 100000 in
set_option maxHeartbeats 4000000 in
theorem digits_any (n : Nat) (e : Int) (h : Parts n e) (s : List UInt8) (pt : Int) (hsh : Shown n e s pt) (w : World) (hw : Laid w) :
    Calls Tryz.prog 8 #[.float .f64 (wordOf n e)] w fun r w' => r = .returned (.tuple #[.string (bs s), .int .i64 pt]) ∧ Below w.heap.size w w' := by
  obtain ⟨f1, f2, f3, f4⟩ := fewC h hsh
  obtain ⟨j, d', h1, h2, rfl, h4⟩ := hsh.ex
  have c1 := format_any n _ d' j _ e _ h w rfl rfl h1 h2 rfl hw.pt hw.tt
  rw [show ((dec d').length : Int) + j + -(shortOf n e).2 - 1 = pt - 1 by omega] at c1
  have hmem := decD_mem d'
  obtain ⟨s, hs⟩ : ∃ s, dec d' = s := ⟨_, rfl⟩
  rw [hs] at c1 hmem f1 f2 ⊢
  have e1 := cut_eText s (pt - 1) hmem
  have e2 := atoi_sText (pt - 1) (by omega)
  have e3 := replace_mText s hmem
  have l1 : (eText s (pt - 1)).length < 100 := by
    rw [eText_eq, List.length_append, List.length_cons]
    have := mText_len s
    have := sText_len (pt - 1)
    omega
  have l2 := sText_len (pt - 1)
  have l3 := mText_len s
  have cC : ∀ w1, Laid w1 → Calls Tryz.prog 22 #[.string (bs (eText s (pt - 1))), .string (bs [101])] w1 fun r w' => r = .returned (.tuple #[.string (bs (mText s)), .string (bs (sText (pt - 1))), .bool true]) ∧ Below w1.heap.size w1 w' := fun w1 hl => by
    obtain ⟨m, hm⟩ := hl.ml
    have c := Tryz.strings_Cut (bs (eText s (pt - 1))) (bs [101]) m w1 (by rw [bs_size]; omega) hm
    rw [show (bs (eText s (pt - 1))).data.toList = eText s (pt - 1) from rfl, show (bs [101]).data.toList = [101] from rfl, e1] at c
    refine c.mono ?_
    rintro r w2 ⟨h1, k, rfl⟩
    exact ⟨h1, below_draws (Below.refl _ _) k⟩
  have cA : ∀ w1, Calls Tryz.prog 23 #[.string (bs (sText (pt - 1)))] w1 fun r w' => r = .returned (.tuple #[.int .i64 (pt - 1), .nilIface]) ∧ Below w1.heap.size w1 w' := fun w1 => by
    have c := Tryz.strconv_Atoi (bs (sText (pt - 1))) (pt - 1) (by rw [bs_size]; omega) e2 w1
    refine c.mono ?_
    rintro r w2 ⟨h1, t, rfl⟩
    exact ⟨h1, Joins.below_bytesWorld _ w1 5 t (Nat.le_refl _)⟩
  have cR : ∀ w1, Laid w1 → Calls Tryz.prog 24 #[.string (bs (mText s)), .string (bs [46]), .string (bs []), .int .i64 1] w1 fun r w' => r = .returned (.string (bs s)) ∧ Below w1.heap.size w1 w' := fun w1 hl => by
    obtain ⟨m, hm⟩ := hl.ml
    have c := Tryz.strings_Replace (bs (mText s)) (bs [46]) (bs []) 1 m w1 (by rw [bs_size]; omega) hm (by decide) (by rw [show (bs []).size = 0 from rfl, bs_size]; omega)
    rw [show (bs (mText s)).data.toList = mText s from rfl, show (bs [46]).data.toList = [46] from rfl, show (bs []).data.toList = [] from rfl, e3] at c
    exact c
  obtain ⟨b, hb⟩ : ∃ b, wordOf n e = b := ⟨_, rfl⟩
  obtain ⟨T, hT⟩ : ∃ T, bs (eText s (pt - 1)) = T := ⟨_, rfl⟩
  obtain ⟨M, hM⟩ : ∃ M, bs (mText s) = M := ⟨_, rfl⟩
  obtain ⟨E, hE⟩ : ∃ E, bs (sText (pt - 1)) = E := ⟨_, rfl⟩
  obtain ⟨S, hS⟩ : ∃ S, bs s = S := ⟨_, rfl⟩
  rw [hT, hb] at c1
  rw [hT, hM, hE] at cC
  rw [hE] at cA
  rw [hM, hS] at cR
  rw [hb, hS]
  have g1 : IntKind.i64.wrap (pt - 1 + 1) = pt := by rw [IntWalk.i64_in _ (by omega)]; omega
  have HW := hideIt hw
  clear h hsh h1 h2 h4 hb hT hM hE hS hs hmem e1 e2 e3 l1 l2 l3 f1 f2 hw
  go_enter Tryz.func8, Tryz.ntmps8
  go_wp2_with fail
  refine c1.mono ?_
  rintro r w1 ⟨rfl, b1⟩
  clear c1
  go_wp2_with fail
  refine (cC w1 (HW.out.later b1)).mono ?_
  rintro r w2 ⟨rfl, b2⟩
  have B2 := b1.trans (b2.mono b1.size)
  clear cC b2
  go_wp2_with fail
  refine (cA w2).mono ?_
  rintro r w3 ⟨rfl, b3⟩
  have B3 := B2.trans (b3.mono B2.size)
  clear cA b3
  go_wp2_with fail
  refine (cR w3 (HW.out.later B3)).mono ?_
  rintro r w4 ⟨rfl, b4⟩
  have B4 := B3.trans (b4.mono B3.size)
  clear cR b4
  go_wp2_with fail
  go_ret2
  exact ⟨rfl, B4⟩
end Go.Proofs.YtdijkobiffhgcaaGreatDoor.Nu
