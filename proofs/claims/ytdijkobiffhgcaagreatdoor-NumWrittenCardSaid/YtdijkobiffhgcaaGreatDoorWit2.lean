/-
  The great table's reading, by proof.
-/
import Derived.Test.YtdijkobiffhgcaaGreatDoorWitW
import Derived.Lib.LaidRTab
namespace Go.Proofs.YtdijkobiffhgcaaGreatDoor.Nu
open Go.RowKit Go.Lib

theorem c22 : Tryz.prog.cellsOf 22 = 1 := by kernel_rfl
def okPair (x : Nat × Nat) : Bool := (Lit.int .u64 (x.1 : Int)).wf && (Lit.int .u64 (x.2 : Int)).wf
theorem all_ok : Go.Pinned.pow10Rows.all okPair = true := by kernel_rfl

theorem pair_reads {w : World} (x : Nat × Nat) (hx : okPair x = true) (fuel : Nat) :
    DataW.trod (fun _ => ()) Tryz.prog w 0 (fun _ => true) false (fuel + 2) 164 [.int .u64 (x.1 : Int), .int .u64 (x.2 : Int)] = some (.agg [.lit (.int .u64 (x.1 : Int)), .lit (.int .u64 (x.2 : Int))], []) := by
  simp only [okPair, Bool.and_eq_true] at hx
  obtain ⟨w0, w1⟩ := hx
  simp [DataW.trod, Tryz.underlying164, Tryz.underlying22, c164, c22, w0, w1]

theorem flat_cut : ∀ (l : List (Nat × Nat)) (i : Nat) (x : Nat × Nat), l[i]? = some x → (((flat l).map (Value.int .u64)).drop (i * 2)).take 2 = [.int .u64 (x.1 : Int), .int .u64 (x.2 : Int)]
  | [], i, x, h => by cases h
  | y :: r, 0, x, h => by
    obtain rfl : y = x := by simpa using h
    rfl
  | y :: r, i + 1, x, h => by
    have := flat_cut r i x (by simpa using h)
    rw [show (i + 1) * 2 = i * 2 + 1 + 1 by omega]
    exact this

theorem range_map {α β : Type} (l : List α) (d : α) (f : α → β) (n : Nat) (hn : l.length = n) : (List.range n).map (fun i => f (l.getD i d)) = l.map f := by
  subst hn
  apply List.ext_getElem?
  intro i
  by_cases hi : i < l.length
  · simp [hi, List.getD]
  · simp [hi]

theorem tab_reads {w : World} (R : List (Nat × Nat)) (hR : R.length = 696) (hok : R.all okPair = true) :
    DataW.trod (fun _ => ()) Tryz.prog w 0 (fun _ => true) false 3 165 ((flat R).map (Value.int .u64)) = some (.agg (R.map fun x => .agg [.lit (.int .u64 (x.1 : Int)), .lit (.int .u64 (x.2 : Int))]), []) := by
  have helem : ∀ i ∈ List.range 696, DataW.trod (fun _ => ()) Tryz.prog w 0 (fun _ => true) false 2 164 ((((flat R).map (Value.int .u64)).drop (i * 2)).take 2) = some ((fun i => ((.agg [.lit (.int .u64 ((R.getD i (0, 0)).1 : Int)), .lit (.int .u64 ((R.getD i (0, 0)).2 : Int))] : DataW Unit), ([] : List MemPlace))) i) := by
    intro i hi
    have hi' := List.mem_range.1 hi
    have hx : R[i]? = some (R.getD i (0, 0)) := by simp [List.getD, List.getElem?_eq_getElem (show i < R.length by omega)]
    rw [flat_cut R i _ hx]
    exact pair_reads _ (List.all_eq_true.1 hok _ (List.mem_of_getElem? hx)) 0
  have hlen : ((flat R).map (Value.int .u64)).length = 1392 := by rw [List.length_map, flat_length, hR]
  show DataW.trod _ _ _ _ _ _ (2 + 1) _ _ = _
  unfold DataW.trod
  simp only [u165, c164, c165]
  rw [if_pos (by first | exact hlen | (rw [hlen])), mapM_someR _ _ _ helem]
  have hm := range_map R (0, 0) (fun x => (DataW.agg [.lit (.int .u64 (x.1 : Int)), .lit (.int .u64 (x.2 : Int))] : DataW Unit)) 696 hR
  simp only [List.getD_eq_getElem?_getD] at hm
  simp [Function.comp_def]
  exact hm

theorem no_iface (o : Option Int) (u : TypeId) (v : Value) : o.map (Value.int .u64) ≠ some (.iface u v) := by
  cases o <;> simp

theorem no_iface2 (l : List Int) (i : Nat) (u : TypeId) (v : Value) : ((l.map (Value.int .u64)).toArray)[i]? ≠ some (.iface u v) := by
  have e : ((l.map (Value.int .u64)).toArray)[i]? = (l[i]?).map (Value.int .u64) := by simp
  rw [e]
  exact no_iface _ u v

set_option maxRecDepth 100000 in
theorem laidIn_pairs {w : World} (R : List (Nat × Nat)) (hR : R.length = 696) (hok : R.all okPair = true) (hg : w.heap[8]? = some (.cells ((flat R).map (Value.int .u64)).toArray 165 (0, 0))) :
    LaidIn Tryz.prog w [("internal/strconv.pow10Tab", .agg (R.map fun x => .agg [.lit (.int .u64 (x.1 : Int)), .lit (.int .u64 (x.2 : Int))]))] [8] := by
  have hv : w.var? Tryz.prog "internal/strconv.pow10Tab" = some ((flat R).map (Value.int .u64)).toArray := by simp [World.var?, global8, hg]
  refine LaidIn.one [8] global8 y8 hv (tab_reads R hR hok) ?_ ?_ ?_
  · rw [List.append_nil]
    exact rowP_nodup _ _
  · intro b off hp
    rw [List.append_nil] at hp
    obtain ⟨i, hi, e⟩ := MemPlace.mem_row.1 hp
    obtain ⟨rfl, rfl⟩ := MemPlace.cell.inj e
    refine ⟨⟨_, _, hg⟩, fun u v hc => ?_⟩
    rw [Lib.cell_of_heap hg] at hc
    refine False.elim ?_
    revert hc
    exact no_iface2 (flat R) _ u v
  · intro x hx
    rw [List.append_nil] at hx
    obtain ⟨i, _, rfl⟩ := MemPlace.mem_row.1 hx
    exact List.mem_cons_self

set_option maxRecDepth 1000000 in
theorem heap8 (os : Os) (args : Array Value) : (((laidWorld os).forCall (fun _ _ => 0) ⟨#[], args, []⟩).memory).heap[8]? = some (.cells ((flat Go.Pinned.pow10Rows).map (Value.int .u64)).toArray 165 (0, 0)) := by kernel_rfl

theorem piece2 (os : Os) (args : Array Value) : LaidIn Tryz.prog ((laidWorld os).forCall (fun _ _ => 0) ⟨#[], args, []⟩).memory [("internal/strconv.pow10Tab", Rows.laid_internal_strconv_pow10Tab)] [8] :=
  laidIn_pairs Go.Pinned.pow10Rows rows696 all_ok (heap8 os args)
end Go.Proofs.YtdijkobiffhgcaaGreatDoor.Nu
