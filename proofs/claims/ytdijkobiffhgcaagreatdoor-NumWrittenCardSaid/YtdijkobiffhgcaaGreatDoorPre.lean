/-
  The program's table of powers of ten in memory; prescale. Conditions: the table lies as told; the row is in range.
-/
import Derived.Test.YtdijkobiffhgcaaGreatDoorMem
import Derived.Test.YtdijkobiffhgcaaGreatDoorPlain
import Derived.Lib.LaidTab
import Derived.Lib.SmallJoins
namespace Go.Proofs.YtdijkobiffhgcaaGreatDoor.Nu
open Go.RowKit Go.Lib

/-- the table, cell by cell. -/
def flat : List (Nat × Nat) → List Int
  | [] => []
  | x :: r => (x.1 : Int) :: (x.2 : Int) :: flat r
theorem flat_length : ∀ l : List (Nat × Nat), (flat l).length = 2 * l.length
  | [] => rfl
  | x :: r => by show (flat r).length + 1 + 1 = _; rw [flat_length r, List.length_cons]; omega
theorem flat_at : ∀ (l : List (Nat × Nat)) (i : Nat), (flat l).getD (2 * i) 0 = ((l.getD i (0, 0)).1 : Int) ∧ (flat l).getD (2 * i + 1) 0 = ((l.getD i (0, 0)).2 : Int)
  | [], i => by simp [flat]
  | x :: r, 0 => ⟨rfl, rfl⟩
  | x :: r, i + 1 => by
    have h := flat_at r i
    rw [show 2 * (i + 1) = 2 * i + 1 + 1 by omega]
    exact h

def PTab (w : World) : Prop := Lib.TabIs Tryz.prog w "internal/strconv.pow10Tab" .u64 (flat Go.Pinned.pow10Rows)
theorem global8 : Tryz.prog.globalNamed "internal/strconv.pow10Tab" = some 8 := by kernel_rfl
theorem PTab.row {w : World} (h : PTab w) (p : Int) (h0 : -348 ≤ p) (h1 : p ≤ 347) :
    w.cell? ⟨8, (p + 348).toNat * 2, none⟩ = some (.int .u64 ((row p).1 : Nat)) ∧ w.cell? ⟨8, (p + 348).toNat * 2 + 1, none⟩ = some (.int .u64 ((row p).2 : Nat)) := by
  have hl := flat_length Go.Pinned.pow10Rows
  rw [rows_length] at hl
  have f := flat_at Go.Pinned.pow10Rows (p + 348).toNat
  rw [Nat.mul_comm (p + 348).toNat 2]
  constructor
  · rw [h.cell global8 _ (by omega)]
    rw [f.1]; rfl
  · rw [h.cell global8 _ (by omega)]
    rw [f.2]; rfl

set_option maxRecDepth 100000 in
set_option maxHeartbeats 4000000 in
theorem prescale_any (B : Nat) (e p lp s : Int) (hi lo j : Nat) (x0 x1 x2 : Value) (w : World) (hj : p = (j : Int) - 348) (hj1 : j < 696) (he : -3000 ≤ e ∧ e ≤ 3000) (hlp : -3000 ≤ lp ∧ lp ≤ 3000) (hs : -(e + lp + 3) = s)
    (t0 : w.cell? ⟨8, j * 2, none⟩ = some (.int .u64 (hi : Int))) (t1 : w.cell? ⟨8, j * 2 + 1, none⟩ = some (.int .u64 (lo : Int))) (hB : 8 < B)
    (c0 : w.cell? ⟨B, 0, none⟩ = some x0) (c1 : w.cell? ⟨B, 1, none⟩ = some x1) (c2 : w.cell? ⟨B, 2, none⟩ = some x2) (hf : ∀ o, w.frozen? ⟨B, o, none⟩ = false) :
    Calls Tryz.prog 120 #[.pointer (some ⟨B, 0, none⟩), .int .i64 e, .int .i64 p, .int .i64 lp] w fun r w' => r = .returned (.tuple #[]) ∧
      w' = ((w.setCell ⟨B, 0, none⟩ (.int .u64 (hi : Int))).setCell ⟨B, 1, none⟩ (.int .u64 (lo : Int))).setCell ⟨B, 2, none⟩ (.int .i64 s) := by
  subst hj
  have g1 : IntKind.i64.wrap ((j : Int) - 348 - -348) = (j : Int) := by rw [show (j : Int) - 348 - -348 = (j : Int) by omega]; exact IntWalk.i64_in _ (by omega)
  have g2 : (j : Int) - 348 + 348 = (j : Int) := by omega
  have b1 : IntKind.i64.wrap (e + lp) = e + lp := IntWalk.i64_in _ (by omega)
  have b2 : IntKind.i64.wrap (e + lp + 3) = e + lp + 3 := IntWalk.i64_in _ (by omega)
  have b3 : IntKind.i64.wrap (-(e + lp + 3)) = s := by rw [IntWalk.i64_in _ (by omega)]; exact hs
  have f0 := hf 0
  have f1 := hf 1
  have f2 := hf 2
  have ne : ¬ 8 = B := by omega
  have HS := hideIt hs
  clear hf hs hB
  go_enter Tryz.func120, Tryz.ntmps120
  go_wp2_with fail
  go_end0
  exact ⟨rfl, rfl⟩
end Go.Proofs.YtdijkobiffhgcaaGreatDoor.Nu
