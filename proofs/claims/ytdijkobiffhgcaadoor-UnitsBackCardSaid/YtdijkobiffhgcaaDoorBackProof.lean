/-
  PROVED: 'ecmacore/ecmacorelaw1.UnitsBack' returns true for every list of units, and its tied card; conditions: none beyond the row's own (the two tables of unicode/utf8 start as the program's text lays them, which the card ties).
-/
import Derived.Test.YtdijkobiffhgcaaDoorCards
import Derived.Test.YtdijkobiffhgcaaDoorTie
import Derived.Test.YtdijkobiffhgcaaDoorBack
import Derived.PinnedBridge
import Derived.WalkKit
import Derived.ProofKit
import Derived.OpenShut
import Derived.Deep.DeepHandedRow
import Derived.Lib.LaidU8
namespace Go.Proofs.YtdijkobiffhgcaaDoor.unitsBack
open Go.ChangeShapes Go.WideShapes Go.ChangeAt Go.RowKit Go.Lib

theorem own : ownKnob Tryd.prog.godebug = none := by kernel_rfl
theorem laidOut : laidOutB Tryd.prog = true := by kernel_rfl
theorem cells27 : Tryd.prog.cellsOf 27 = 1 := by kernel_rfl
theorem acc_eq : (Rows.laid_unicode_utf8_acceptRanges : DataW Unit) = acceptData := by kernel_rfl

/-- WHAT THE ROW's LIST GIVES: the two tables. -/
theorem tabs {W : World} (hL : laidMetH Tryd.prog Rows.unitsBackRow.laid W) : Utf8Tabs 1 2 W := by
  have hL' : laidMet Tryd.prog Rows.unitsBackRow.laid W := hL
  have h1 := laidMet.reads hL' (.head _)
  have h2 := laidMet.reads hL' (.tail _ (.head _))
  rw [acc_eq] at h1
  rw [show (Rows.laid_unicode_utf8_first : DataW Unit) = firstData from Pinned.utf8First_eq] at h2
  exact utf8Tabs_of_reads (ρ := Tryd.lays260_ren) Tryd.lays260 ⟨by kernel_rfl, by kernel_rfl, by kernel_rfl, by kernel_rfl, by kernel_rfl, by kernel_rfl, by kernel_rfl⟩ h2 h1

theorem wf_u16 {n : Int} (h : (Lit.int .u16 n).wf = true) : 0 ≤ n ∧ n ≤ 65535 := by
  have := bounds_u16 h
  omega

set_option maxRecDepth 100000 in
theorem contract (H : Type) (enc : TypeId × Value → H) (W : World) (base : Nat) (args : Array Value) (ds gs : List (DataW H)) (before : List MemPlace)
    (hval : ∀ (j : Nat) t v, Tryd.f3.params[j]? = some t → args[j]? = some v → Value.okWide Tryd.prog W .any base t v)
    (hW : DataW.Whole enc Tryd.prog Tryd.f3.params.toList Rows.unitsBackSpec.vars false W args.toList ds gs before) (hL : laidMetH Tryd.prog Rows.unitsBackRow.laid W) :
    Calls Tryd.prog 3 args W fun e W' => ∃ v, e = .returned v ∧ Rows.unitsBackSpec.post enc Tryd.prog Tryd.f3 false true false false W args v W' := by
  have hT := tabs hL
  have hW' := hW
  obtain ⟨p, q, hA0, hV, rfl, hfz, hnd⟩ := hW
  have hA : DataW.TrodAll enc Tryd.prog W 0 (fun _ => true) true Tryd.f3.params.toList args.toList ds p := hA0
  rw [Tryd.params3] at hA hval
  obtain ⟨v0, vs0, d0, ds0, p0, q0, hargs, rfl, rfl, h0, r0⟩ := trodAll_cons hA
  obtain ⟨rfl, rfl, rfl⟩ := trodAll_nil r0
  obtain rfl : args = #[v0] := by cases args; simp_all
  obtain ⟨rfl, rfl⟩ := trodVars_none hV
  obtain ⟨a0, len, cap, rfl⟩ := okWide_slice Tryd.underlying22 (hval 0 22 v0 rfl rfl)
  have h0k := h0
  obtain ⟨fuel, hf⟩ := h0
  clear hA0
  simp only [List.append_nil] at hW'
  have hlt : ∀ x ∈ p0, x.block < W.heap.size := fun x hx => by simpa using hW'.lt x hx
  have walk : Calls Tryd.prog 3 #[.slice a0 len cap] W fun e w' => e = .returned (.bool true) ∧ Below W.heap.size W w' := by
    by_cases hlong : 4000 < len
    · exact (Un.back_long a0 len cap W hlong).mono fun e w' ⟨h1, h2⟩ => ⟨h1, h2 ▸ Below.refl _ _⟩
    · rcases open_ints Tryd.underlying22 Tryd.underlying27 cells27 hf with ⟨hcs, hx⟩ | ⟨a, len', cap', zs, hcs, _, hl, hm, hz, hx, hcell, hwf⟩
      · obtain ⟨rfl, rfl, rfl⟩ : a0 = none ∧ len = 0 ∧ cap = 0 := by simpa [Value.cells] using hcs
        exact Un.back_nil W hT
      · obtain ⟨rfl, rfl, rfl⟩ : a0 = some a ∧ len = len' ∧ cap = cap' := by simpa [Value.cells] using hcs
        simp only [if_true] at hz
        have hlen : (zs.take len).length = len := by rw [List.length_take]; omega
        have hr : ∀ u ∈ zs.take len, 0 ≤ u ∧ u ≤ 65535 := fun u hu => wf_u16 (hwf u (List.mem_of_mem_take hu))
        have hget : ∀ j, j < len → (zs.take len).getD j 0 = zs.getD j 0 := fun j hj => by simp [List.getD, List.getElem?_take_of_lt hj]
        have hc : ∀ j u, (Un.u16Vals (zs.take len))[j]? = some u → W.cell? (a.add j) = some u := by
          intro j u hu
          have hj : j < len := by
            have := (List.getElem?_eq_some_iff.1 hu).1
            simp only [Un.u16Vals, List.length_map] at this
            omega
          rw [hcell j (by omega)]
          simp only [Un.u16Vals, List.getElem?_map] at hu
          rw [← hu, ← hget j hj]
          simp [List.getD, List.getElem?_eq_getElem (show j < (zs.take len).length by omega)]
        have hl0 : Un.Reads16 W (.slice (some a) (zs.take len).length cap) (zs.take len) := by
          by_cases h0 : len = 0
          · subst h0
            exact .inl ⟨by simp, _, _, by simp; exact ⟨rfl, rfl⟩⟩
          · obtain ⟨b, off, rfl, hcc⟩ := ints_at hcell (by omega)
            refine .inr ⟨b, off, cap, rfl, fun j hj => ?_⟩
            rw [hcc j (by omega), hget j (by omega)]
        have := Un.back_some a cap (zs.take len) W (by omega) hr hc hl0 hT
        rwa [hlen] at this
  refine walk.mono fun e W' ⟨he, hb⟩ => ?_
  subst he
  exact ⟨_, rfl, _, _, _, [], p0 ++ [], [], hW', trodAll_cons_mk (shut_bool Tryd.underlying4 _) trodAll_mk0,
    trodAll_cons_mk (Below.trod laidOut (by kernel_rfl) (of_decide_eq_true (by kernel_rfl)) h0k hb hlt) trodAll_mk0, rfl, hb.frame _, fun h => by cases h⟩
/-- A WORLD FOR THE WITNESS: the settled one, the two tables holding what their initialisers lay. -/
noncomputable def laidWorld (os : Os) : World :=
  let w0 := World.holding Tryd.prog os ⟨#[], #[], []⟩
  let put (h : Array Obj) (g : Nat) (cs : Array Value) : Array Obj := h.modify g fun
    | .cells _ t frozen => .cells cs t frozen
    | o => o
  let h1 := put w0.heap 1 (firstTab.map fun z => Value.int .u8 z).toArray
  let h2 := put h1 2 ((List.range 16).flatMap fun i => [Value.int .u8 (accLo i), Value.int .u8 (accHi i)]).toArray
  { w0 with heap := h2 }
theorem laid_met (os : Os) : laidMet Tryd.prog Rows.unitsBackRow.laid ((laidWorld os).forCall (fun _ _ => 0) ⟨#[], #[.slice none 0 0], []⟩).memory :=
  laidMet_of_run' 8 (by kernel_rfl) (by kernel_rfl)
theorem reads (os : Os) {H : Type} (enc : TypeId × Value → H) : ∃ places, DataW.whole enc Tryd.prog ((laidWorld os).forCall (fun _ _ => 0) ⟨#[], #[.slice none 0 0], []⟩).memory Tryd.f3.params.toList Rows.unitsBackSpec.vars false #[Value.slice none 0 0].toList 8 = some ([.nil], [], places) :=
  ⟨[], by kernel_rfl⟩

set_option maxRecDepth 100000 in
theorem lifted (os : Os) (started : os.Started) (H : Type) (enc : TypeId × Value → H) (F : Stop.Interp) :
    ReturnsInHanded {} Tryd.checked os 3 .any ((OpenSpec.ofChange Rows.unitsBackSpec).preRow enc Tryd.prog Tryd.f3 Rows.unitsBackRow.domain false Rows.unitsBackRow.laid) (((OpenSpec.ofChange Rows.unitsBackSpec).at F).post enc Tryd.prog Tryd.f3 false true false false) := by
  obtain ⟨places, hx⟩ := reads os enc
  refine returnsInHanded_of_row (C := Tryd.checked) (s := OpenSpec.ofChange Rows.unitsBackSpec) own started (by kernel_rfl) Tryd.func3
    (witness_row_at (enc := enc) (C := Tryd.checked) false (laidWorld os) #[.slice none 0 0] rfl (by kernel_rfl) (by kernel_rfl) (by kernel_rfl)
      (OpenSpec.preRow_of_cond 8 hx (by kernel_rfl) (fun k hk => by cases hk) (by kernel_rfl) (laid_met os))) ?_
  intro W base args ds gs before hval hW _ _ _ hL _ _
  exact contract H enc W base args ds gs before hval hW hL

theorem said : Rows.UnitsBackSaid :=
  OpenClaim.holds_of_cond 3 Tryd.f3 rfl rfl rfl rfl rfl rfl rfl ⟨rfl, rfl, rfl, rfl, rfl⟩ rfl rfl rfl rfl rfl (by kernel_rfl) Tryd.func3 (by kernel_rfl)
    (of_decide_eq_true (by kernel_rfl)) (by unfold Func.isWrapper; first | (rw [if_pos (by decide +kernel)]; kernel_rfl) | (rw [if_neg (by decide +kernel)]; exact ⟨rfl, rfl⟩))
    (fun os started H enc _ F => by rw [OpenClaim.pre_eq_preRow]; exact lifted os started H enc F)

theorem plain (f : FuncId) (fn : Func) (hf : Tryd.pinned.checked.prog.funcNamed Rows.unitsBackRow.func = some f) (hfn : Tryd.pinned.checked.prog.funcs[f]? = some fn) :
    false = Tryd.pinned.checked.prog.looks [] ∧ ∀ (j : Nat) t, fn.params[j]? = some t → Tryd.pinned.checked.prog.wantsStandIn t = false := by
  obtain rfl : f = 3 := Option.some.inj ((show Tryd.prog.funcNamed Rows.unitsBackRow.func = some 3 by kernel_rfl).symm.trans hf) |>.symm
  obtain rfl : fn = Tryd.f3 := (Option.some.inj (Tryd.func3.symm.trans hfn)).symm
  refine ⟨by kernel_rfl, fun j t ht => ?_⟩
  rw [Tryd.params3] at ht
  obtain rfl : t = 22 := by simpa using Array.mem_of_getElem? ht
  exact (show Tryd.prog.wantsStandIn 22 = false by kernel_rfl)

/-- THE CARD. -/
theorem card : Rows.UnitsBackCardSaid :=
  Claim7.holds_tied_plain_at .later [] _ _ _ _ said (fun _ h => by cases h) (by kernel_rfl) (fun _ h => by cases h) unitsBack_row_tie rfl ⟨rfl, rfl⟩ (by kernel_rfl) rfl plain (by kernel_rfl)
#print axioms card
end Go.Proofs.YtdijkobiffhgcaaDoor.unitsBack
