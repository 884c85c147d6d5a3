/-
  UnitsTurned: the four tables that the row lists, read off the laid world, and a world that lays them.
-/
import Derived.Test.YtdijkobiffhgcaaDoorCards
import Derived.Test.YtdijkobiffhgcaaDoorShelf
import Derived.Test.YtdijkobiffhgcaaDoorShelfIs
import Derived.PinnedBridge
import Derived.WalkKit
import Derived.ProofKit
import Derived.Deep.DeepHandedRow
import Derived.Deep.DeepWitnessRowRef
import Derived.Lib.LaidU8
import Derived.Lib.LaidCaseMet
import Derived.Lib.LaidRTabT
import Derived.Lib.LaidIn
namespace Go.Proofs.YtdijkobiffhgcaaDoor.unitsTurned
open Go.ChangeShapes Go.WideShapes Go.ChangeAt Go.RowKit Go.Lib Go.Shelf

theorem own : ownKnob Tryd.prog.godebug = none := by kernel_rfl
theorem laidOut : laidOutB Tryd.prog = true := by kernel_rfl
theorem acc_eq : (Rows.laid_unicode_utf8_acceptRanges : DataW Unit) = acceptData := by kernel_rfl
theorem zs_eq : (Rows.laid_unicode_Zs : DataW Unit) = rtabData zsT := by kernel_rfl

/-- the tables' types, numbered as this program numbers them. -/
def ren : Ren := ⟨Tryd.lays274_ren.f, Tryd.lays274_ren.t, fun | 13 => 3 | n => n⟩
theorem lays : Lays.n274 Tryd.prog ren := { Tryd.lays274 with }
theorem u206 : Tryd.prog.underlying (ren.t 206) = some (.array 3 (ren.t 21)) := by kernel_rfl
theorem extra : CaseExtra Tryd.prog ren := ⟨by kernel_rfl, by kernel_rfl, by kernel_rfl, by kernel_rfl, by kernel_rfl, by kernel_rfl⟩
theorem rx : RExtra Tryd.prog Tryd.laysGn14_ren.viaGn := ⟨by kernel_rfl, by kernel_rfl, by kernel_rfl, by kernel_rfl, by kernel_rfl, by kernel_rfl, by kernel_rfl, by kernel_rfl⟩

/-- WHAT THE ROW's LIST GIVES. -/
theorem tabs {W : World} (hL : laidMetH Tryd.prog Rows.unitsTurnedRow.laid W) : Utf8Tabs 1 2 W ∧ CaseVar 3 caseA W ∧ RVar 0 zsT W := by
  have hL' : laidMet Tryd.prog Rows.unitsTurnedRow.laid W := hL
  have h1 := laidMet.reads hL' (.head _)
  have h2 := laidMet.reads hL' (.tail _ (.head _))
  have h3 := laidMet.reads hL' (.tail _ (.tail _ (.head _)))
  have h4 := laidMet.reads hL' (.tail _ (.tail _ (.tail _ (.head _))))
  rw [acc_eq] at h1
  rw [zs_eq] at h2
  rw [show (Rows.laid_unicode_CaseRanges : DataW Unit) = caseData from Pinned.caseRanges_eq] at h3
  rw [show (Rows.laid_unicode_utf8_first : DataW Unit) = firstData from Pinned.utf8First_eq] at h4
  exact ⟨utf8Tabs_of_reads (ρ := Tryd.lays260_ren) Tryd.lays260 ⟨by kernel_rfl, by kernel_rfl, by kernel_rfl, by kernel_rfl, by kernel_rfl, by kernel_rfl, by kernel_rfl⟩ h4 h1,
    caseVar_of_reads (ρ := ren) lays u206 extra h3, rvar_of_readsT (RTypes.ofGn14 Tryd.laysGn14) rx (g := 0) (by kernel_rfl) (by kernel_rfl) h2⟩

/-- the cased rows as a piece. -/
theorem laidIn_rows {P : Program} {ρ : Ren} (L : Lays.n274 P ρ) (t206 : P.underlying (ρ.t 206) = some (.array 3 (ρ.t 21))) (X : CaseExtra P ρ) {w : World} (R : Nat) (t : TypeId) (hgR : ρ.g 13 ≠ R)
    (hvar : w.heap[ρ.g 13]? = some (.cells #[.slice (some ⟨R, 0, none⟩) caseA.size caseA.size] (ρ.t 162) (0, 0)))
    (hblk : w.heap[R]? = some (.cells caseCells5 t (0, 0))) : LaidIn P w [("unicode.CaseRanges", caseData)] [ρ.g 13, R] := by
  have hT := caseTab_of_block hblk
  have hread := case_slice_reads L t206 X hT caseA_wf (by rw [caseA_size]; unfold maxLen; omega) 0
  rw [case_rows_data] at hread
  have hv : w.var? P "unicode.CaseRanges" = some #[.slice (some ⟨R, 0, none⟩) caseA.size caseA.size] := by simp [World.var?, X.n13, hvar]
  refine LaidIn.one (g := ρ.g 13) (t := ρ.t 162) [ρ.g 13, R] X.n13 X.y13 hv hread ?_ ?_ ?_
  · refine List.nodup_append.2 ⟨row_nodup _ _, row_nodup _ _, ?_⟩
    intro a ha b hb e
    obtain ⟨i, _, rfl⟩ := MemPlace.mem_row.1 ha
    obtain ⟨j, _, rfl⟩ := MemPlace.mem_row.1 hb
    simp at e
    exact hgR e.1
  · intro b off hp
    rcases List.mem_append.1 hp with hp | hp
    · obtain ⟨i, hi, e⟩ := MemPlace.mem_row.1 hp
      cases e
      refine ⟨⟨_, _, hvar⟩, fun u v hc => ?_⟩
      obtain rfl : i = 0 := by simp at hi; omega
      rw [Lib.cell_of_heap hvar] at hc
      simp at hc
    · obtain ⟨i, hi, e⟩ := MemPlace.mem_row.1 hp
      cases e
      refine ⟨⟨_, _, hblk⟩, fun u v hc => ?_⟩
      obtain ⟨c0, c1, c2, c3, c4⟩ := hT (i / 5) (by omega)
      have hi5 : 0 + i = 0 + i / 5 * 5 + i % 5 := by omega
      simp only at hc
      rw [hi5] at hc
      have hm : i % 5 < 5 := Nat.mod_lt _ (by omega)
      match hk : i % 5, hm with
      | 0, _ => rw [hk, Nat.add_zero, c0] at hc; cases hc
      | 1, _ => rw [hk, c1] at hc; cases hc
      | 2, _ => rw [hk, c2] at hc; cases hc
      | 3, _ => rw [hk, c3] at hc; cases hc
      | 4, _ => rw [hk, c4] at hc; cases hc
  · intro x hx
    rcases List.mem_append.1 hx with hp | hp
    · obtain ⟨i, _, rfl⟩ := MemPlace.mem_row.1 hp
      exact List.mem_cons_self
    · obtain ⟨i, _, rfl⟩ := MemPlace.mem_row.1 hp
      exact List.mem_cons_of_mem _ List.mem_cons_self

/-- A WORLD FOR THE WITNESS. -/
noncomputable def laidWorld (os : Os) : World :=
  let N := (World.settled Tryd.prog os).heap.size
  let w0 := World.holding Tryd.prog os ⟨#[.cells (rgCells .u16 zsT.r16) (Tryd.laysGn14_ren.viaGn.t 198), .cells #[.slice (some ⟨N, 0, none⟩) 5 5, .slice none 0 0, .int .i64 1] (Tryd.laysGn14_ren.viaGn.t 196), .cells caseCells5 (ren.t 208)], #[], []⟩
  let put (h : Array Obj) (g : Nat) (cs : Array Value) : Array Obj := h.modify g fun
    | .cells _ t frozen => .cells cs t frozen
    | o => o
  let h1 := put w0.heap 1 (firstTab.map fun z => Value.int .u8 z).toArray
  let h2 := put h1 2 ((List.range 16).flatMap fun i => [Value.int .u8 (accLo i), Value.int .u8 (accHi i)]).toArray
  let h3 := put h2 0 #[.pointer (some ⟨N + 1, 0, none⟩)]
  let h4 := put h3 3 #[.slice (some ⟨N + 2, 0, none⟩) 336 336]
  { w0 with heap := h4 }

theorem laid_met (os : Os) (args : Array Value) : laidMet Tryd.prog Rows.unitsTurnedRow.laid ((laidWorld os).forCall (fun _ _ => 0) ⟨#[], args, []⟩).memory := by
  have p1 : LaidIn Tryd.prog ((laidWorld os).forCall (fun _ _ => 0) ⟨#[], args, []⟩).memory [("unicode/utf8.acceptRanges", Rows.laid_unicode_utf8_acceptRanges), ("unicode.Zs", Rows.laid_unicode_Zs)]
      [2, 0, (World.settled Tryd.prog default).heap.size, (World.settled Tryd.prog default).heap.size + 1] :=
    LaidIn.of_run _ 10 (by kernel_rfl) (by kernel_rfl) (by kernel_rfl) (by kernel_rfl)
  have p2 : LaidIn Tryd.prog ((laidWorld os).forCall (fun _ _ => 0) ⟨#[], args, []⟩).memory [("unicode.CaseRanges", caseData)] [ren.g 13, (World.settled Tryd.prog default).heap.size + 2] :=
    laidIn_rows lays u206 extra ((World.settled Tryd.prog default).heap.size + 2) (ren.t 208) (of_decide_eq_true (by kernel_rfl)) (by kernel_rfl) (by kernel_rfl)
  have p3 : LaidIn Tryd.prog ((laidWorld os).forCall (fun _ _ => 0) ⟨#[], args, []⟩).memory [("unicode/utf8.first", Rows.laid_unicode_utf8_first)] [1] :=
    LaidIn.of_run _ 10 (by kernel_rfl) (by kernel_rfl) (by kernel_rfl) (by kernel_rfl)
  rw [← Pinned.caseRanges_eq] at p2
  exact ((p1.append p2 (by kernel_rfl)).append p3 (by kernel_rfl)).met

theorem witness_row (os : Os) {H : Type} (enc : TypeId × Value → H) :
    (OpenSpec.ofChange Rows.unitsTurnedSpec).preRow enc Tryd.prog Tryd.f4 Rows.unitsTurnedRow.domain false Rows.unitsTurnedRow.laid ((laidWorld os).forCall (fun _ _ => 0) ⟨#[], #[.string ByteArray.empty], []⟩).memory #[.string ByteArray.empty] := by
  have hw : (DataW.whole enc Tryd.prog ((laidWorld os).forCall (fun _ _ => 0) ⟨#[], #[.string ByteArray.empty], []⟩).memory Tryd.f4.params.toList Rows.unitsTurnedSpec.vars false #[Value.string ByteArray.empty].toList 8).map (fun x => (x.1, x.2.1)) =
      some ([.lit (.string [])], []) := by kernel_rfl
  obtain ⟨⟨x1, x2, x3⟩, hx, hx1⟩ := Option.map_eq_some_iff.1 hw
  simp only [Prod.mk.injEq] at hx1
  obtain ⟨rfl, rfl⟩ := hx1
  exact OpenSpec.preRow_of_cond 8 hx (by kernel_rfl) (fun k hk => by cases hk) (by kernel_rfl) (laid_met os _)
end Go.Proofs.YtdijkobiffhgcaaDoor.unitsTurned
