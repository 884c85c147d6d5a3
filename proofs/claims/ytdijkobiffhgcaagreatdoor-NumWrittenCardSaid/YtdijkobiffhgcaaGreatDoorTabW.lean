/-
  What the row's list gives: the two tables that the walk reads; MaxLen's cell by the world's shape.
-/
import Derived.Test.YtdijkobiffhgcaaGreatDoorCards
import Derived.Test.YtdijkobiffhgcaaGreatDoorDgtW
import Derived.Lib.LaidU8
namespace Go.Proofs.YtdijkobiffhgcaaGreatDoor.Nu
open Go.RowKit Go.Lib

theorem rows696 : Go.Pinned.pow10Rows.length = 696 := by kernel_rfl
theorem y7 : (Tryz.prog.globals[7]?).map (·.type) = some 148 := by kernel_rfl
theorem y8 : (Tryz.prog.globals[8]?).map (·.type) = some 165 := by kernel_rfl
theorem u148 : Tryz.prog.underlying 148 = some (.array 20 22) := by kernel_rfl
theorem u165 : Tryz.prog.underlying 165 = some (.array 696 164) := by kernel_rfl
theorem u164 : ∃ fs, Tryz.prog.underlying 164 = some (.struct fs) ∧ fs.size = 2 ∧ ∀ (i : Nat) (f : Field), fs[i]? = some f → Tryz.prog.underlying f.type = some (.int .u64) ∧ f.offset = i ∧ Tryz.prog.cellsOf f.type = 1 := by
  have h : (match Tryz.prog.underlying 164 with | some (.struct fs) => decide (fs.size = 2) && fs.all (fun f => f.type == 22) && (fs[0]?.map (·.offset) == some 0) && (fs[1]?.map (·.offset) == some 1) | _ => false) = true := by kernel_rfl
  have u22 : Tryz.prog.underlying 22 = some (.int .u64) := Tryz.underlying22
  have c22 : Tryz.prog.cellsOf 22 = 1 := by kernel_rfl
  split at h
  · rename_i fs hfs
    simp only [Bool.and_eq_true, decide_eq_true_eq] at h
    obtain ⟨⟨⟨h1, h2⟩, h3⟩, h4⟩ := h
    refine ⟨fs, hfs, h1, fun i f hf => ?_⟩
    have ht : f.type = 22 := by
      have := Array.all_eq_true_iff_forall_mem.1 h2 f (Array.mem_of_getElem? hf)
      simpa using this
    rw [ht]
    refine ⟨u22, ?_, c22⟩
    match i, hf with
    | 0, hf => rw [hf] at h3; simpa using h3
    | 1, hf => rw [hf] at h4; simpa using h4
    | i + 2, hf =>
      rw [Array.getElem?_eq_none (by omega)] at hf
      cases hf
  · cases h
theorem c164 : Tryz.prog.cellsOf 164 = 2 := by kernel_rfl
theorem c165 : Tryz.prog.cellsOf 165 = 1392 := by kernel_rfl

theorem tt_data : (Rows.laid_internal_strconv_uint64pow10 : DataW Unit) = tabData .u64 Lib.pow10Tab := by kernel_rfl

theorem flat_get : ∀ (l : List (Nat × Nat)) (i : Nat) (x : Nat × Nat), l[i]? = some x → (flat l)[2 * i]? = some (x.1 : Int) ∧ (flat l)[2 * i + 1]? = some (x.2 : Int)
  | [], i, x, h => by cases h
  | y :: r, 0, x, h => by
    obtain rfl : y = x := by simpa using h
    exact ⟨rfl, rfl⟩
  | y :: r, i + 1, x, h => by
    have := flat_get r i x (by simpa using h)
    rw [show 2 * (i + 1) = 2 * i + 1 + 1 by omega]
    exact this

theorem ptab_gen {w : World} (R : List (Nat × Nat)) (hR : R.length = 696) (h : VarReads Tryz.prog w "internal/strconv.pow10Tab" (.agg (R.map fun x => .agg [.lit (.int .u64 x.1), .lit (.int .u64 x.2)]))) : TabIs Tryz.prog w "internal/strconv.pow10Tab" .u64 (flat R) := by
  obtain ⟨g, t, cs, fuel, p, hg, hty, hvar, hd⟩ := h
  obtain rfl := Option.some.inj (global8.symm.trans hg)
  obtain rfl := Option.some.inj (y8.symm.trans hty)
  have hel := fun i hi => array_elem u165 hd i hi
  have hlen : cs.size = 1392 := by
    cases fuel with
    | zero => simp [DataW.trod] at hd
    | succ fuel =>
      simp only [DataW.trod, u165, c164, c165] at hd
      split at hd
      · rename_i hl
        first | simpa using hl | omega
      · cases hd
  obtain ⟨fs, hfs, hf2, hff⟩ := u164
  unfold TabIs
  rw [hvar]
  refine congrArg some ?_
  apply Array.ext_getElem?
  intro k
  have hr : ((flat R).map fun z => Value.int .u64 z).toArray[k]? = ((flat R)[k]?).map (fun z => Value.int .u64 z) := by simp
  rw [hr]
  by_cases hk : k < 1392
  · obtain ⟨i, hi2⟩ : ∃ i, k / 2 = i := ⟨_, rfl⟩
    have hi : i < 696 := by omega
    obtain ⟨fuel', d, q, hdi, he⟩ := hel i hi
    obtain ⟨x, hx⟩ : ∃ x, R[i]? = some x := ⟨_, List.getElem?_eq_getElem (by rw [hR]; exact hi)⟩
    rw [List.getElem?_map, hx] at hdi
    obtain rfl := Option.some.inj hdi
    rw [c164] at he
    have hcs := ints_of_struct (k := .u64) (zs := [(x.1 : Int), (x.2 : Int)]) hfs hff (by rw [c164, hf2]) he
    have e0 := congrArg (·[0]?) hcs
    have e1 := congrArg (·[1]?) hcs
    simp only [List.getElem?_take, List.getElem?_drop] at e0 e1
    obtain ⟨f0, f1⟩ := flat_get _ _ _ hx
    rw [← Array.getElem?_toList]
    rcases Nat.mod_two_eq_zero_or_one k with hm | hm
    · obtain rfl : k = 2 * i := by omega
      rw [f0, show 2 * i = i * 2 + 0 by omega]
      simpa using e0
    · obtain rfl : k = 2 * i + 1 := by omega
      rw [f1, show 2 * i + 1 = i * 2 + 1 by omega]
      simpa using e1
  · rw [Array.getElem?_eq_none (by omega), List.getElem?_eq_none (by rw [flat_length, hR]; omega)]
    first | done | rfl

theorem ptab_of_reads {w : World} (h : VarReads Tryz.prog w "internal/strconv.pow10Tab" Go.Pinned.pow10Tab) : PTab w := ptab_gen _ rows696 h

theorem tt_of_reads {w : World} (h : VarReads Tryz.prog w "internal/strconv.uint64pow10" (tabData .u64 Lib.pow10Tab)) : Lib.TabIs Tryz.prog w "internal/strconv.uint64pow10" .u64 Lib.pow10Tab := by
  obtain ⟨g, t, cs, fuel, p, hg, hty, hvar, hd⟩ := h
  obtain rfl := Option.some.inj (global7.symm.trans hg)
  obtain rfl := Option.some.inj (y7.symm.trans hty)
  unfold TabIs
  rw [hvar, ← cells_of_tab u148 Tryz.underlying22 (by kernel_rfl) (by kernel_rfl) hd]

/-- WHAT THE ROW's LIST GIVES. -/
theorem laid_of {W : World} (hL : laidMetH Tryz.prog Rows.numWrittenRow.laid W) (hS : W.ShapedOpen Tryz.prog) : Laid W := by
  have hL' : laidMet Tryz.prog Rows.numWrittenRow.laid W := hL
  have h1 := laidMet.reads hL' (.tail _ (.tail _ (.tail _ (.head _))))
  have h2 := laidMet.reads hL' (.tail _ (.tail _ (.tail _ (.tail _ (.tail _ (.tail _ (.tail _ (.tail _ (.head _)))))))))
  rw [tt_data] at h1
  exact ⟨ptab_of_reads h2, tt_of_reads h1, Go.Proofs.cell_of_shapedOpen_int (zero := #[.int .i64 0]) (t := 3) hS (of_decide_eq_true (by kernel_rfl)) (by kernel_rfl) rfl (by kernel_rfl) (by kernel_rfl) Tryz.underlying3⟩
end Go.Proofs.YtdijkobiffhgcaaGreatDoor.Nu
