/-
  unicode.Is's contract at this dump, in plain words (written by the kit's lay-plain.mjs; its remarks struck).
-/
import Derived.Shelf.Unicode.PredsGn
import Derived.Lib.LaidRTabT
import Derived.Test.YtdijkobiffhgcaaDoorProg
namespace Go.Proofs
open Go.Shelf
def Tryd.laysGn14_ren : Go.Shelf.Ren := ⟨fun | 14 => 37 | 25 => 43 | 26 => 44 | n => n, fun | 22 => 49 | 21 => 21 | 4 => 4 | 0 => 0 | 31 => 63 | 28 => 60 | 3 => 3 | 32 => 43 | 35 => 65 | 33 => 27 | 29 => 61 | 38 => 68 | 41 => 73 | 42 => 35 | 43 => 74 | n => n, fun | n => n⟩
theorem Tryd.laysGn14 : Go.Proofs.LaysGn.n14 Tryd.prog Tryd.laysGn14_ren := {
  mixed := by kernel_rfl
  f14 := Tryd.func37.trans (congrArg some (by kernel_rfl))
  f25 := Tryd.func43.trans (congrArg some (by kernel_rfl))
  f26 := Tryd.func44.trans (congrArg some (by kernel_rfl))
  t0 := Tryd.underlying0
  a0 := Tryd.isAgg0
  z0 := Tryd.sizeOf0
  v0 := Tryd.zeroValue0
  i0 := by kernel_rfl
  t3 := Tryd.underlying3
  a3 := Tryd.isAgg3
  z3 := Tryd.sizeOf3
  v3 := Tryd.zeroValue3
  i3 := by kernel_rfl
  t4 := Tryd.underlying4
  a4 := Tryd.isAgg4
  z4 := Tryd.sizeOf4
  v4 := Tryd.zeroValue4
  i4 := by kernel_rfl
  t21 := Tryd.underlying21
  a21 := Tryd.isAgg21
  z21 := Tryd.sizeOf21
  v21 := Tryd.zeroValue21
  i21 := by kernel_rfl
  t22 := Tryd.underlying49
  a22 := Tryd.isAgg49
  z22 := Tryd.sizeOf49
  v22 := Tryd.zeroValue49
  i22 := by kernel_rfl
  t28 := Tryd.underlying60
  a28 := Tryd.isAgg60
  z28 := Tryd.sizeOf60
  v28 := Tryd.zeroValue60
  i28 := by kernel_rfl
  t29 := Tryd.underlying61
  a29 := Tryd.isAgg61
  z29 := Tryd.sizeOf61
  v29 := Tryd.zeroValue61
  i29 := by kernel_rfl
  t31 := Tryd.underlying63
  a31 := Tryd.isAgg63
  z31 := Tryd.sizeOf63
  v31 := Tryd.zeroValue63
  i31 := by kernel_rfl
  t32 := Tryd.underlying43
  a32 := Tryd.isAgg43
  z32 := Tryd.sizeOf43
  v32 := Tryd.zeroValue43
  i32 := by kernel_rfl
  t33 := Tryd.underlying27
  a33 := Tryd.isAgg27
  z33 := Tryd.sizeOf27
  v33 := Tryd.zeroValue27
  i33 := by kernel_rfl
  t35 := Tryd.underlying65
  a35 := Tryd.isAgg65
  z35 := Tryd.sizeOf65
  v35 := Tryd.zeroValue65
  i35 := by kernel_rfl
  t38 := Tryd.underlying68
  a38 := Tryd.isAgg68
  z38 := Tryd.sizeOf68
  v38 := Tryd.zeroValue68
  i38 := by kernel_rfl
  t41 := Tryd.underlying73
  a41 := Tryd.isAgg73
  z41 := Tryd.sizeOf73
  v41 := Tryd.zeroValue73
  i41 := by kernel_rfl
  t42 := Tryd.underlying35
  a42 := Tryd.isAgg35
  z42 := Tryd.sizeOf35
  v42 := Tryd.zeroValue35
  i42 := by kernel_rfl
  t43 := Tryd.underlying74
  a43 := Tryd.isAgg74
  z43 := Tryd.sizeOf74
  v43 := Tryd.zeroValue74
  i43 := by kernel_rfl }
open Go.RowKit Go.Lib in
theorem Tryd.unicode_Is_any (Tb oT : Nat) (T : RTab) (r : Int) (w : World) (hlo : -2147483648 ≤ r) (hhi : r ≤ 2147483647) (hA : RTabAt Tb oT T w) (hok : RTabOk T) :
    Calls Tryd.prog 37 #[.pointer (some ⟨Tb, oT, none⟩), .int .i32 r] w fun e w' => e = .returned (.bool (isGo T r)) ∧ Below w.heap.size w w' := Any.unicode_Is_any Tryd.laysGn14 Tb oT T r w hlo hhi hA hok
end Go.Proofs
