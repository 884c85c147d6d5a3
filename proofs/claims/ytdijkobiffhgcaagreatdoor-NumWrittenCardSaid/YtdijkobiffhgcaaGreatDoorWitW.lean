/-
  A world in which the ten listed variables hold what their initialisers lay.
-/
import Derived.Test.YtdijkobiffhgcaaGreatDoorTabW
import Derived.Deep.DeepHandedRow
import Derived.Deep.DeepWitnessRowRef
import Derived.Lib.LaidU8
import Derived.Lib.LaidIn
import Derived.ProofKit
namespace Go.Proofs.YtdijkobiffhgcaaGreatDoor.Nu
open Go.RowKit Go.Lib

def z10 : List Int := [0, 1, 28, 2, 29, 14, 24, 3, 30, 22, 20, 15, 25, 17, 4, 8, 31, 27, 13, 23, 21, 19, 16, 7, 26, 12, 18, 6, 11, 5, 10, 9]
def z11 : List Int := [0, 1, 56, 2, 57, 49, 28, 3, 61, 58, 42, 50, 38, 29, 17, 4, 62, 47, 59, 36, 45, 43, 51, 22, 53, 39, 33, 30, 24, 18, 12, 5, 63, 55, 48, 27, 60, 41, 37, 16, 46, 35, 44, 21, 52, 32, 23, 11, 54, 26, 40, 15, 34, 20, 31, 10, 25, 14, 19, 9, 13, 8, 7, 6]
def cheatCells : Array Value := (Go.Pinned.cheatRows.flatMap fun x => [Value.int .i64 (x.1 : Int), .string ⟨x.2.toArray⟩]).toArray
def sRange : List UInt8 := [118, 97, 108, 117, 101, 32, 111, 117, 116, 32, 111, 102, 32, 114, 97, 110, 103, 101]
def sSyntax : List UInt8 := [105, 110, 118, 97, 108, 105, 100, 32, 115, 121, 110, 116, 97, 120]

noncomputable def laidWorld (os : Os) : World :=
  let N := (World.settled Tryz.prog os).heap.size
  let w0 := World.holding Tryz.prog os ⟨#[.cells #[.string ⟨sRange.toArray⟩] 157, .cells #[.string ⟨sSyntax.toArray⟩] 157, .cells cheatCells 169], #[], []⟩
  let put (h : Array Obj) (g : Nat) (cs : Array Value) : Array Obj := h.modify g fun
    | .cells _ t frozen => .cells cs t frozen
    | o => o
  let h0 := put (put w0.heap 4 #[.iface 155 (.pointer (some ⟨N, 0, none⟩))]) 3 #[.iface 155 (.pointer (some ⟨N + 1, 0, none⟩))]
  let h1 := put (put h0 10 (z10.map (Value.int .u8)).toArray) 11 (z11.map (Value.int .u8)).toArray
  let h2 := put (put h1 1 #[.bool true]) 7 (Lib.pow10Tab.map (Value.int .u64)).toArray
  let h3 := put (put h2 5 (firstTab.map fun z => Value.int .u8 z).toArray) 6 ((List.range 16).flatMap fun i => [Value.int .u8 (accLo i), Value.int .u8 (accHi i)]).toArray
  let h4 := put (put h3 8 ((flat Go.Pinned.pow10Rows).map (Value.int .u64)).toArray) 9 #[.slice (some ⟨N + 2, 0, none⟩) Go.Pinned.cheatRows.length Go.Pinned.cheatRows.length]
  { w0 with heap := h4 }

noncomputable abbrev N0 : Nat := (World.settled Tryz.prog default).heap.size
set_option maxRecDepth 1000000 in
theorem piece0 (os : Os) (args : Array Value) : LaidIn Tryz.prog ((laidWorld os).forCall (fun _ _ => 0) ⟨#[], args, []⟩).memory (Rows.numWrittenRow.laid.take 7) [10, 11, 1, 7, 6, 4, N0, 3, N0 + 1] :=
  LaidIn.of_run [10, 11, 1, 7, 6, 4, N0, 3, N0 + 1] 10 (by kernel_rfl) (by kernel_rfl) (by kernel_rfl) (by kernel_rfl)
set_option maxRecDepth 1000000 in
theorem piece1 (os : Os) (args : Array Value) : LaidIn Tryz.prog ((laidWorld os).forCall (fun _ _ => 0) ⟨#[], args, []⟩).memory [("internal/strconv.leftcheats", Rows.laid_internal_strconv_leftcheats)] [9, N0 + 2] :=
  LaidIn.of_run [9, N0 + 2] 10 (by kernel_rfl) (by kernel_rfl) (by kernel_rfl) (by kernel_rfl)
set_option maxRecDepth 1000000 in
theorem piece3 (os : Os) (args : Array Value) : LaidIn Tryz.prog ((laidWorld os).forCall (fun _ _ => 0) ⟨#[], args, []⟩).memory [("unicode/utf8.first", Rows.laid_unicode_utf8_first)] [5] :=
  LaidIn.of_run [5] 10 (by kernel_rfl) (by kernel_rfl) (by kernel_rfl) (by kernel_rfl)
end Go.Proofs.YtdijkobiffhgcaaGreatDoor.Nu
