/-
  The shelf's contracts at this dump, in plain words (written by the kit's lay-plain.mjs; its remarks struck).
-/
import Derived.Shelf.Strings.Builder1
import Derived.Shelf.Strings.Builder2
import Derived.Shelf.Strings.BuilderF
import Derived.Shelf.Utf8.RuneCount
import Derived.Shelf.Strconv.Atoi
import Derived.Shelf.Strconv.Itoa0
import Derived.Shelf.Strconv.Itoa1
import Derived.Shelf.LaysM
import Derived.Shelf.Strconv.Itoa2
import Derived.Shelf.Strconv.Itoa3
import Derived.Shelf.Strings.Search1
import Derived.Shelf.Strings.Search2
import Derived.Shelf.Strings.Search3
import Derived.Shelf.Strings.Cut
import Derived.Shelf.Strings.Count
import Derived.Shelf.Strings.Shaped
import Derived.Shelf.Strings.Prefix
import Derived.Shelf.Strings.Split
import Derived.Shelf.Strings.Replace
import Derived.Shelf.Strings.SplitShaped
import Derived.Shelf.Unicode.Decode
import Derived.Shelf.Strings.RuneCount
import Derived.Shelf.Bits.Mul64
import Derived.Shelf.Strings.Repeat
import Derived.Shelf.Unicode.DecodeSlow
import Derived.Shelf.Unicode.DecodeAny
import Derived.Test.YtdijkobiffhgcaaGreatDoorProg
namespace Go.Proofs
open Go.Shelf
def Tryz.lays170_ren : Go.Shelf.Ren := ⟨fun | 170 => 29 | n => n, fun | 70 => 52 | 3 => 3 | 0 => 0 | 72 => 55 | 37 => 53 | 5 => 5 | n => n, fun | n => n⟩
theorem Tryz.lays170 : Go.Proofs.Lays.n170 Tryz.prog Tryz.lays170_ren := {
  mixed := by kernel_rfl
  f170 := Tryz.func29.trans (congrArg some (by kernel_rfl))
  t0 := Tryz.underlying0
  a0 := Tryz.isAgg0
  z0 := Tryz.sizeOf0
  v0 := Tryz.zeroValue0
  t3 := Tryz.underlying3
  a3 := Tryz.isAgg3
  z3 := Tryz.sizeOf3
  v3 := Tryz.zeroValue3
  t37 := Tryz.underlying53
  a37 := Tryz.isAgg53
  z37 := Tryz.sizeOf53
  v37 := Tryz.zeroValue53
  t70 := Tryz.underlying52
  a70 := Tryz.isAgg52
  z70 := Tryz.sizeOf52
  v70 := Tryz.zeroValue52
  t72 := Tryz.underlying55
  a72 := Tryz.isAgg55
  z72 := Tryz.sizeOf55
  v72 := Tryz.zeroValue55 }
open Go.RowKit in
theorem Tryz.Builder_Len (B b : Nat) (bs : List Value) (w : World) (h : Lib.IsBuilder 55 5 B b bs w) :
    Calls Tryz.prog 29 #[.pointer (some ⟨b, 0, none⟩)] w fun e w' => e = .returned (.int .i64 bs.length) ∧ w' = w := Any.Builder_Len Tryz.lays170 B b bs w h
def Tryz.lays169_ren : Go.Shelf.Ren := ⟨fun | 169 => 30 | n => n, fun | 70 => 52 | 9 => 9 | 0 => 0 | 72 => 55 | 37 => 53 | 127 => 78 | 3 => 3 | 5 => 5 | n => n, fun | n => n⟩
theorem Tryz.lays169 : Go.Proofs.Lays.n169 Tryz.prog Tryz.lays169_ren := {
  mixed := by kernel_rfl
  f169 := Tryz.func30.trans (congrArg some (by kernel_rfl))
  t0 := Tryz.underlying0
  a0 := Tryz.isAgg0
  z0 := Tryz.sizeOf0
  v0 := Tryz.zeroValue0
  t3 := Tryz.underlying3
  a3 := Tryz.isAgg3
  z3 := Tryz.sizeOf3
  v3 := Tryz.zeroValue3
  t9 := Tryz.underlying9
  a9 := Tryz.isAgg9
  z9 := Tryz.sizeOf9
  v9 := Tryz.zeroValue9
  t37 := Tryz.underlying53
  a37 := Tryz.isAgg53
  z37 := Tryz.sizeOf53
  v37 := Tryz.zeroValue53
  t70 := Tryz.underlying52
  a70 := Tryz.isAgg52
  z70 := Tryz.sizeOf52
  v70 := Tryz.zeroValue52
  t72 := Tryz.underlying55
  a72 := Tryz.isAgg55
  z72 := Tryz.sizeOf55
  v72 := Tryz.zeroValue55
  t127 := Tryz.underlying78
  a127 := Tryz.isAgg78
  z127 := Tryz.sizeOf78
  v127 := Tryz.zeroValue78 }
theorem Tryz.Builder_Extra_169 : Builder.Extra Tryz.prog Tryz.lays169_ren := {
  sizeBuilder := by kernel_rfl
  liesBuilder := by kernel_rfl
  t5 := Tryz.underlying5
  a5 := Tryz.isAgg5
  z5 := Tryz.sizeOf5
  v5 := Tryz.zeroValue5
  infoByte := by kernel_rfl
  cellsByte := by kernel_rfl
  sizeByte := by kernel_rfl
  neB5 := by decide }
open Go.RowKit in
theorem Tryz.Builder_String (B b : Nat) (l : List UInt8) (w : World) (h : Lib.IsBuilder 55 5 B b (Lib.byteCells l) w) (h0 : l ≠ []) :
    Calls Tryz.prog 30 #[.pointer (some ⟨b, 0, none⟩)] w fun e w' => e = .returned (.string ⟨l.toArray⟩) ∧ Below B w w' := Any.Builder_String Tryz.lays169 Tryz.Builder_Extra_169 B b l w h h0
open Go.RowKit in
theorem Tryz.Builder_String_empty (B b : Nat) (w : World) (h : Lib.IsBuilder 55 5 B b [] w) (hBw : B ≤ w.heap.size) :
    Calls Tryz.prog 30 #[.pointer (some ⟨b, 0, none⟩)] w fun e w' => e = .returned (.string ⟨#[]⟩) ∧ Below B w w' := Any.Builder_String_empty Tryz.lays169 Tryz.Builder_Extra_169 B b w h hBw
open Go.RowKit in
theorem Tryz.Builder_String_any (B b : Nat) (l : List UInt8) (w : World) (h : Lib.IsBuilder 55 5 B b (Lib.byteCells l) w) (hBw : B ≤ w.heap.size) :
    Calls Tryz.prog 30 #[.pointer (some ⟨b, 0, none⟩)] w fun e w' => e = .returned (.string ⟨l.toArray⟩) ∧ Below B w w' := Any.Builder_String_any Tryz.lays169 Tryz.Builder_Extra_169 B b l w h hBw
def Tryz.lays241_ren : Go.Shelf.Ren := ⟨fun | 241 => 53 | 277 => 77 | n => n, fun | 70 => 52 | 3 => 3 | 0 => 0 | 72 => 55 | 37 => 53 | 5 => 5 | n => n, fun | n => n⟩
theorem Tryz.lays241 : Go.Proofs.Lays.n241 Tryz.prog Tryz.lays241_ren := {
  mixed := by kernel_rfl
  f241 := Tryz.func53.trans (congrArg some (by kernel_rfl))
  f277 := Tryz.func77.trans (congrArg some (by kernel_rfl))
  t0 := Tryz.underlying0
  a0 := Tryz.isAgg0
  z0 := Tryz.sizeOf0
  v0 := Tryz.zeroValue0
  t3 := Tryz.underlying3
  a3 := Tryz.isAgg3
  z3 := Tryz.sizeOf3
  v3 := Tryz.zeroValue3
  t37 := Tryz.underlying53
  a37 := Tryz.isAgg53
  z37 := Tryz.sizeOf53
  v37 := Tryz.zeroValue53
  t70 := Tryz.underlying52
  a70 := Tryz.isAgg52
  z70 := Tryz.sizeOf52
  v70 := Tryz.zeroValue52
  t72 := Tryz.underlying55
  a72 := Tryz.isAgg55
  z72 := Tryz.sizeOf55
  v72 := Tryz.zeroValue55 }
theorem Tryz.Builder_Extra_241 : Builder.Extra Tryz.prog Tryz.lays241_ren := {
  sizeBuilder := by kernel_rfl
  liesBuilder := by kernel_rfl
  t5 := Tryz.underlying5
  a5 := Tryz.isAgg5
  z5 := Tryz.sizeOf5
  v5 := Tryz.zeroValue5
  infoByte := by kernel_rfl
  cellsByte := by kernel_rfl
  sizeByte := by kernel_rfl
  neB5 := by decide }
open Go.RowKit in
theorem Tryz.Builder_grow_fresh (B b n : Nat) (w : World) (hB : B ≤ b) (hbk : w.heap[b]? = some (.cells #[.pointer (some ⟨b, 0, none⟩), .slice none 0 0] 55 (0, 0))) (hBw : B ≤ w.heap.size) (hn : n ≤ 281474976710656) :
    Calls Tryz.prog 53 #[.pointer (some ⟨b, 0, none⟩), .int .i64 n] w fun e w' => e = .returned (.tuple #[]) ∧ (Lib.BuilderAt 55 5 B b (.pointer (some ⟨b, 0, none⟩)) [] w' ∧ Below B w w') := Any.Builder_grow_fresh Tryz.lays241 Tryz.Builder_Extra_241 B b n w hB hbk hBw hn
def Tryz.lays165_ren : Go.Shelf.Ren := ⟨fun | 165 => 27 | 240 => 52 | 241 => 53 | 276 => 76 | 277 => 77 | n => n, fun | 70 => 52 | 3 => 3 | 0 => 0 | 4 => 4 | 9 => 9 | 20 => 20 | 72 => 55 | 37 => 53 | 164 => 97 | 5 => 5 | n => n, fun | n => n⟩
theorem Tryz.lays165 : Go.Proofs.Lays.n165 Tryz.prog Tryz.lays165_ren := {
  mixed := by kernel_rfl
  f165 := Tryz.func27.trans (congrArg some (by kernel_rfl))
  f240 := Tryz.func52.trans (congrArg some (by kernel_rfl))
  f241 := Tryz.func53.trans (congrArg some (by kernel_rfl))
  f276 := Tryz.func76.trans (congrArg some (by kernel_rfl))
  f277 := Tryz.func77.trans (congrArg some (by kernel_rfl))
  t0 := Tryz.underlying0
  a0 := Tryz.isAgg0
  z0 := Tryz.sizeOf0
  v0 := Tryz.zeroValue0
  t3 := Tryz.underlying3
  a3 := Tryz.isAgg3
  z3 := Tryz.sizeOf3
  v3 := Tryz.zeroValue3
  t4 := Tryz.underlying4
  a4 := Tryz.isAgg4
  z4 := Tryz.sizeOf4
  v4 := Tryz.zeroValue4
  t9 := Tryz.underlying9
  a9 := Tryz.isAgg9
  z9 := Tryz.sizeOf9
  v9 := Tryz.zeroValue9
  t20 := Tryz.underlying20
  a20 := Tryz.isAgg20
  z20 := Tryz.sizeOf20
  v20 := Tryz.zeroValue20
  t37 := Tryz.underlying53
  a37 := Tryz.isAgg53
  z37 := Tryz.sizeOf53
  v37 := Tryz.zeroValue53
  t70 := Tryz.underlying52
  a70 := Tryz.isAgg52
  z70 := Tryz.sizeOf52
  v70 := Tryz.zeroValue52
  t72 := Tryz.underlying55
  a72 := Tryz.isAgg55
  z72 := Tryz.sizeOf55
  v72 := Tryz.zeroValue55
  t164 := Tryz.underlying97
  a164 := Tryz.isAgg97
  z164 := Tryz.sizeOf97
  v164 := Tryz.zeroValue97 }
theorem Tryz.Builder_Extra_165 : Builder.Extra Tryz.prog Tryz.lays165_ren := {
  sizeBuilder := by kernel_rfl
  liesBuilder := by kernel_rfl
  t5 := Tryz.underlying5
  a5 := Tryz.isAgg5
  z5 := Tryz.sizeOf5
  v5 := Tryz.zeroValue5
  infoByte := by kernel_rfl
  cellsByte := by kernel_rfl
  sizeByte := by kernel_rfl
  neB5 := by decide }
open Go.RowKit in
theorem Tryz.Builder_Grow_fresh (B b n : Nat) (w : World) (hB : B ≤ b) (hbk : w.heap[b]? = some (.cells #[.pointer none, .slice none 0 0] 55 (0, 0))) (hBw : B ≤ w.heap.size) (hn : n ≤ 281474976710656) :
    Calls Tryz.prog 27 #[.pointer (some ⟨b, 0, none⟩), .int .i64 n] w fun e w' => e = .returned (.tuple #[]) ∧ (Lib.BuilderAt 55 5 B b (.pointer (some ⟨b, 0, none⟩)) [] w' ∧ Below B w w') := Any.Builder_Grow_fresh Tryz.lays165 Tryz.Builder_Extra_165 B b n w hB hbk hBw hn
open Go.RowKit in
theorem Tryz.Builder_Len_f (B b : Nat) (bs : List Value) (w : World) (h : Lib.IsBuilderF 55 5 B b bs w) :
    Calls Tryz.prog 29 #[.pointer (some ⟨b, 0, none⟩)] w fun e w' => e = .returned (.int .i64 bs.length) ∧ w' = w := Any.Builder_Len_f Tryz.lays170 B b bs w h
open Go.RowKit in
theorem Tryz.Builder_String_f (B b : Nat) (l : List UInt8) (w : World) (h : Lib.IsBuilderF 55 5 B b (Lib.byteCells l) w) (h0 : l ≠ []) :
    Calls Tryz.prog 30 #[.pointer (some ⟨b, 0, none⟩)] w fun e w' => e = .returned (.string ⟨l.toArray⟩) ∧ (Lib.IsBuilderF 55 5 B b (Lib.byteCells l) w' ∧ Below B w w') := Any.Builder_String_f Tryz.lays169 Tryz.Builder_Extra_169 B b l w h h0
open Go.RowKit in
theorem Tryz.Builder_String_empty_f (B b : Nat) (w : World) (h : Lib.IsBuilderF 55 5 B b [] w) (hBw : B ≤ w.heap.size) :
    Calls Tryz.prog 30 #[.pointer (some ⟨b, 0, none⟩)] w fun e w' => e = .returned (.string ⟨#[]⟩) ∧ (Lib.IsBuilderF 55 5 B b [] w' ∧ Below B w w') := Any.Builder_String_empty_f Tryz.lays169 Tryz.Builder_Extra_169 B b w h hBw
open Go.RowKit in
theorem Tryz.Builder_String_any_f (B b : Nat) (l : List UInt8) (w : World) (h : Lib.IsBuilderF 55 5 B b (Lib.byteCells l) w) (hBw : B ≤ w.heap.size) :
    Calls Tryz.prog 30 #[.pointer (some ⟨b, 0, none⟩)] w fun e w' => e = .returned (.string ⟨l.toArray⟩) ∧ (Lib.IsBuilderF 55 5 B b (Lib.byteCells l) w' ∧ Below B w w') := Any.Builder_String_any_f Tryz.lays169 Tryz.Builder_Extra_169 B b l w h hBw
def Tryz.lays195_ren : Go.Shelf.Ren := ⟨fun | 195 => 73 | n => n, fun | 9 => 9 | 3 => 3 | 0 => 0 | 4 => 4 | n => n, fun | n => n⟩
theorem Tryz.lays195 : Go.Proofs.Lays.n195 Tryz.prog Tryz.lays195_ren := {
  mixed := by kernel_rfl
  f195 := Tryz.func73.trans (congrArg some (by kernel_rfl))
  t0 := Tryz.underlying0
  a0 := Tryz.isAgg0
  z0 := Tryz.sizeOf0
  v0 := Tryz.zeroValue0
  t3 := Tryz.underlying3
  a3 := Tryz.isAgg3
  z3 := Tryz.sizeOf3
  v3 := Tryz.zeroValue3
  t4 := Tryz.underlying4
  a4 := Tryz.isAgg4
  z4 := Tryz.sizeOf4
  v4 := Tryz.zeroValue4
  t9 := Tryz.underlying9
  a9 := Tryz.isAgg9
  z9 := Tryz.sizeOf9
  v9 := Tryz.zeroValue9 }
open Go.RowKit in
theorem Tryz.utf8_RuneCountInString (s : ByteArray) (w : World) (hs : s.size < 9223372036854775807) :
    Calls Tryz.prog 73 #[.string s] w fun e w' => e = .returned (.int .i64 (Lib.runeCount s)) ∧ ∃ pos, w' = w.iter s pos := Any.utf8_RuneCountInString Tryz.lays195 s w hs
def Tryz.lays244_ren : Go.Shelf.Ren := ⟨fun | 244 => 44 | 247 => 68 | 287 => 105 | 321 => 118 | 322 => 138 | n => n, fun | 9 => 9 | 3 => 3 | 75 => 44 | 4 => 4 | 5 => 5 | 167 => 89 | 37 => 53 | 0 => 0 | 85 => 90 | 2 => 2 | 53 => 22 | 175 => 121 | 46 => 48 | 21 => 21 | 80 => 58 | n => n, fun | n => n⟩
theorem Tryz.lays244 : Go.Proofs.Lays.n244 Tryz.prog Tryz.lays244_ren := {
  mixed := by kernel_rfl
  f244 := Tryz.func44.trans (congrArg some (by kernel_rfl))
  f247 := Tryz.func68.trans (congrArg some (by kernel_rfl))
  f287 := Tryz.func105.trans (congrArg some (by kernel_rfl))
  f321 := Tryz.func118.trans (congrArg some (by kernel_rfl))
  f322 := Tryz.func138.trans (congrArg some (by kernel_rfl))
  t0 := Tryz.underlying0
  a0 := Tryz.isAgg0
  z0 := Tryz.sizeOf0
  v0 := Tryz.zeroValue0
  t2 := Tryz.underlying2
  a2 := Tryz.isAgg2
  z2 := Tryz.sizeOf2
  v2 := Tryz.zeroValue2
  t3 := Tryz.underlying3
  a3 := Tryz.isAgg3
  z3 := Tryz.sizeOf3
  v3 := Tryz.zeroValue3
  t4 := Tryz.underlying4
  a4 := Tryz.isAgg4
  z4 := Tryz.sizeOf4
  v4 := Tryz.zeroValue4
  t5 := Tryz.underlying5
  a5 := Tryz.isAgg5
  z5 := Tryz.sizeOf5
  v5 := Tryz.zeroValue5
  t9 := Tryz.underlying9
  a9 := Tryz.isAgg9
  z9 := Tryz.sizeOf9
  v9 := Tryz.zeroValue9
  t21 := Tryz.underlying21
  a21 := Tryz.isAgg21
  z21 := Tryz.sizeOf21
  v21 := Tryz.zeroValue21
  t37 := Tryz.underlying53
  a37 := Tryz.isAgg53
  z37 := Tryz.sizeOf53
  v37 := Tryz.zeroValue53
  t46 := Tryz.underlying48
  a46 := Tryz.isAgg48
  z46 := Tryz.sizeOf48
  v46 := Tryz.zeroValue48
  t53 := Tryz.underlying22
  a53 := Tryz.isAgg22
  z53 := Tryz.sizeOf22
  v53 := Tryz.zeroValue22
  t75 := Tryz.underlying44
  a75 := Tryz.isAgg44
  z75 := Tryz.sizeOf44
  v75 := Tryz.zeroValue44
  t85 := Tryz.underlying90
  a85 := Tryz.isAgg90
  z85 := Tryz.sizeOf90
  v85 := Tryz.zeroValue90
  t167 := Tryz.underlying89
  a167 := Tryz.isAgg89
  z167 := Tryz.sizeOf89
  v167 := Tryz.zeroValue89
  t175 := Tryz.underlying121
  a175 := Tryz.isAgg121
  z175 := Tryz.sizeOf121
  v175 := Tryz.zeroValue121 }
open Go.RowKit in
theorem Tryz.internal_strconv_Atoi (s : ByteArray) (n : Int) (hl : s.size ≤ 18) (h : Lib.atoi s.data.toList = some n) (w : World) :
    Calls Tryz.prog 44 #[.string s] w fun e w' => e = .returned (.tuple #[.int .i64 n, .nilIface]) ∧ ∃ t, w' = Lib.bytesWorld w 5 t := Any.internal_strconv_Atoi Tryz.lays244 s n hl h w
def Tryz.lays172_ren : Go.Shelf.Ren := ⟨fun | 172 => 23 | 244 => 44 | 245 => 45 | 247 => 68 | 279 => 69 | 280 => 70 | 281 => 71 | 282 => 72 | 287 => 105 | 316 => 106 | 171 => 31 | 205 => 107 | 321 => 118 | 322 => 138 | 243 => 54 | 246 => 78 | 283 => 108 | 284 => 94 | 285 => 109 | 286 => 110 | 129 => 91 | 317 => 95 | 318 => 127 | 319 => 139 | 320 => 140 | 337 => 147 | 338 => 148 | n => n, fun | 9 => 9 | 3 => 3 | 75 => 44 | 76 => 45 | 4 => 4 | 5 => 5 | 167 => 89 | 37 => 53 | 0 => 0 | 85 => 90 | 2 => 2 | 168 => 92 | 53 => 22 | 175 => 121 | 46 => 48 | 210 => 124 | 127 => 78 | 145 => 157 | 143 => 155 | 21 => 21 | 171 => 114 | 173 => 131 | 212 => 148 | 51 => 59 | 20 => 20 | 213 => 158 | 232 => 108 | 233 => 174 | 80 => 58 | n => n, fun | 15 => 3 | 16 => 4 | 17 => 7 | 18 => 10 | 19 => 11 | n => n⟩
theorem Tryz.lays172 : Go.Proofs.Lays.n172 Tryz.prog Tryz.lays172_ren := {
  mixed := by kernel_rfl
  f129 := Tryz.func91.trans (congrArg some (by kernel_rfl))
  f171 := Tryz.func31.trans (congrArg some (by kernel_rfl))
  f172 := Tryz.func23.trans (congrArg some (by kernel_rfl))
  f205 := Tryz.func107.trans (congrArg some (by kernel_rfl))
  f243 := Tryz.func54.trans (congrArg some (by kernel_rfl))
  f244 := Tryz.func44.trans (congrArg some (by kernel_rfl))
  f245 := Tryz.func45.trans (congrArg some (by kernel_rfl))
  f246 := Tryz.func78.trans (congrArg some (by kernel_rfl))
  f247 := Tryz.func68.trans (congrArg some (by kernel_rfl))
  f279 := Tryz.func69.trans (congrArg some (by kernel_rfl))
  f280 := Tryz.func70.trans (congrArg some (by kernel_rfl))
  f281 := Tryz.func71.trans (congrArg some (by kernel_rfl))
  f282 := Tryz.func72.trans (congrArg some (by kernel_rfl))
  f283 := Tryz.func108.trans (congrArg some (by kernel_rfl))
  f284 := Tryz.func94.trans (congrArg some (by kernel_rfl))
  f285 := Tryz.func109.trans (congrArg some (by kernel_rfl))
  f286 := Tryz.func110.trans (congrArg some (by kernel_rfl))
  f287 := Tryz.func105.trans (congrArg some (by kernel_rfl))
  f316 := Tryz.func106.trans (congrArg some (by kernel_rfl))
  f317 := Tryz.func95.trans (congrArg some (by kernel_rfl))
  f318 := Tryz.func127.trans (congrArg some (by kernel_rfl))
  f319 := Tryz.func139.trans (congrArg some (by kernel_rfl))
  f320 := Tryz.func140.trans (congrArg some (by kernel_rfl))
  f321 := Tryz.func118.trans (congrArg some (by kernel_rfl))
  f322 := Tryz.func138.trans (congrArg some (by kernel_rfl))
  f337 := Tryz.func147.trans (congrArg some (by kernel_rfl))
  f338 := Tryz.func148.trans (congrArg some (by kernel_rfl))
  t0 := Tryz.underlying0
  a0 := Tryz.isAgg0
  z0 := Tryz.sizeOf0
  v0 := Tryz.zeroValue0
  t2 := Tryz.underlying2
  a2 := Tryz.isAgg2
  z2 := Tryz.sizeOf2
  v2 := Tryz.zeroValue2
  t3 := Tryz.underlying3
  a3 := Tryz.isAgg3
  z3 := Tryz.sizeOf3
  v3 := Tryz.zeroValue3
  t4 := Tryz.underlying4
  a4 := Tryz.isAgg4
  z4 := Tryz.sizeOf4
  v4 := Tryz.zeroValue4
  t5 := Tryz.underlying5
  a5 := Tryz.isAgg5
  z5 := Tryz.sizeOf5
  v5 := Tryz.zeroValue5
  t9 := Tryz.underlying9
  a9 := Tryz.isAgg9
  z9 := Tryz.sizeOf9
  v9 := Tryz.zeroValue9
  t20 := Tryz.underlying20
  a20 := Tryz.isAgg20
  z20 := Tryz.sizeOf20
  v20 := Tryz.zeroValue20
  t21 := Tryz.underlying21
  a21 := Tryz.isAgg21
  z21 := Tryz.sizeOf21
  v21 := Tryz.zeroValue21
  t37 := Tryz.underlying53
  a37 := Tryz.isAgg53
  z37 := Tryz.sizeOf53
  v37 := Tryz.zeroValue53
  t46 := Tryz.underlying48
  a46 := Tryz.isAgg48
  z46 := Tryz.sizeOf48
  v46 := Tryz.zeroValue48
  t51 := Tryz.underlying59
  a51 := Tryz.isAgg59
  z51 := Tryz.sizeOf59
  v51 := Tryz.zeroValue59
  t53 := Tryz.underlying22
  a53 := Tryz.isAgg22
  z53 := Tryz.sizeOf22
  v53 := Tryz.zeroValue22
  t75 := Tryz.underlying44
  a75 := Tryz.isAgg44
  z75 := Tryz.sizeOf44
  v75 := Tryz.zeroValue44
  t76 := Tryz.underlying45
  a76 := Tryz.isAgg45
  z76 := Tryz.sizeOf45
  v76 := Tryz.zeroValue45
  t85 := Tryz.underlying90
  a85 := Tryz.isAgg90
  z85 := Tryz.sizeOf90
  v85 := Tryz.zeroValue90
  t127 := Tryz.underlying78
  a127 := Tryz.isAgg78
  z127 := Tryz.sizeOf78
  v127 := Tryz.zeroValue78
  t143 := Tryz.underlying155
  a143 := Tryz.isAgg155
  z143 := Tryz.sizeOf155
  v143 := Tryz.zeroValue155
  t145 := Tryz.underlying157
  a145 := Tryz.isAgg157
  z145 := Tryz.sizeOf157
  v145 := Tryz.zeroValue157
  t167 := Tryz.underlying89
  a167 := Tryz.isAgg89
  z167 := Tryz.sizeOf89
  v167 := Tryz.zeroValue89
  t168 := Tryz.underlying92
  a168 := Tryz.isAgg92
  z168 := Tryz.sizeOf92
  v168 := Tryz.zeroValue92
  t171 := Tryz.underlying114
  a171 := Tryz.isAgg114
  z171 := Tryz.sizeOf114
  v171 := Tryz.zeroValue114
  t173 := Tryz.underlying131
  a173 := Tryz.isAgg131
  z173 := Tryz.sizeOf131
  v173 := Tryz.zeroValue131
  t175 := Tryz.underlying121
  a175 := Tryz.isAgg121
  z175 := Tryz.sizeOf121
  v175 := Tryz.zeroValue121
  t210 := Tryz.underlying124
  a210 := Tryz.isAgg124
  z210 := Tryz.sizeOf124
  v210 := Tryz.zeroValue124
  t212 := Tryz.underlying148
  a212 := Tryz.isAgg148
  z212 := Tryz.sizeOf148
  v212 := Tryz.zeroValue148
  t213 := Tryz.underlying158
  a213 := Tryz.isAgg158
  z213 := Tryz.sizeOf158
  t232 := Tryz.underlying108
  a232 := Tryz.isAgg108
  z232 := Tryz.sizeOf108
  v232 := Tryz.zeroValue108
  t233 := Tryz.underlying174
  a233 := Tryz.isAgg174
  z233 := Tryz.sizeOf174
  v233 := Tryz.zeroValue174
  g15 := by kernel_rfl
  g16 := by kernel_rfl
  g17 := by kernel_rfl
  g18 := by kernel_rfl
  g19 := by kernel_rfl }
open Go.RowKit in
theorem Tryz.strconv_Atoi (s : ByteArray) (n : Int) (hl : s.size ≤ 18) (h : Lib.atoi s.data.toList = some n) (w : World) :
    Calls Tryz.prog 23 #[.string s] w fun e w' => e = .returned (.tuple #[.int .i64 n, .nilIface]) ∧ ∃ t, w' = Lib.bytesWorld w 5 t := Any.strconv_Atoi Tryz.lays172 s n hl h w
def Tryz.lays129_ren : Go.Shelf.Ren := ⟨fun | 129 => 91 | n => n, fun | 53 => 22 | 3 => 3 | 4 => 4 | 46 => 48 | 5 => 5 | 9 => 9 | n => n, fun | n => n⟩
theorem Tryz.lays129 : Go.Proofs.Lays.n129 Tryz.prog Tryz.lays129_ren := {
  mixed := by kernel_rfl
  f129 := Tryz.func91.trans (congrArg some (by kernel_rfl))
  t3 := Tryz.underlying3
  a3 := Tryz.isAgg3
  z3 := Tryz.sizeOf3
  v3 := Tryz.zeroValue3
  t4 := Tryz.underlying4
  a4 := Tryz.isAgg4
  z4 := Tryz.sizeOf4
  v4 := Tryz.zeroValue4
  t5 := Tryz.underlying5
  a5 := Tryz.isAgg5
  z5 := Tryz.sizeOf5
  v5 := Tryz.zeroValue5
  t9 := Tryz.underlying9
  a9 := Tryz.isAgg9
  z9 := Tryz.sizeOf9
  v9 := Tryz.zeroValue9
  t46 := Tryz.underlying48
  a46 := Tryz.isAgg48
  z46 := Tryz.sizeOf48
  v46 := Tryz.zeroValue48
  t53 := Tryz.underlying22
  a53 := Tryz.isAgg22
  z53 := Tryz.sizeOf22
  v53 := Tryz.zeroValue22 }
theorem Tryz.bits_Len64 (x : Int) (w : World) (h0 : 0 ≤ x) (h1 : x ≤ 18446744073709551615) :
    Calls Tryz.prog 91 #[.int .u64 x] w fun e w' => e = .returned (.int .i64 (Lib.bitLen x.toNat)) ∧ w' = w := Any.bits_Len64 Tryz.lays129 x w h0 h1
def Tryz.lays317_ren : Go.Shelf.Ren := ⟨fun | 317 => 95 | n => n, fun | 3 => 3 | 46 => 48 | n => n, fun | n => n⟩
theorem Tryz.lays317 : Go.Proofs.Lays.n317 Tryz.prog Tryz.lays317_ren := {
  mixed := by kernel_rfl
  f317 := Tryz.func95.trans (congrArg some (by kernel_rfl))
  t3 := Tryz.underlying3
  a3 := Tryz.isAgg3
  z3 := Tryz.sizeOf3
  v3 := Tryz.zeroValue3
  t46 := Tryz.underlying48
  a46 := Tryz.isAgg48
  z46 := Tryz.sizeOf48
  v46 := Tryz.zeroValue48 }
open Go.Lib in
theorem Tryz.internal_strconv_log10Pow2 (x : Nat) (h : x ≤ 64) (w : World) :
    Calls Tryz.prog 95 #[.int .i64 x] w fun e w' => e = .returned (.int .i64 (Lib.l10 x)) ∧ w' = w := Any.internal_strconv_log10Pow2 Tryz.lays317 x h w
def Tryz.lays318_ren : Go.Shelf.Ren := ⟨fun | 318 => 127 | n => n, fun | 3 => 3 | 4 => 4 | n => n, fun | n => n⟩
theorem Tryz.lays318 : Go.Proofs.Lays.n318 Tryz.prog Tryz.lays318_ren := {
  mixed := by kernel_rfl
  f318 := Tryz.func127.trans (congrArg some (by kernel_rfl))
  t3 := Tryz.underlying3
  a3 := Tryz.isAgg3
  z3 := Tryz.sizeOf3
  v3 := Tryz.zeroValue3
  t4 := Tryz.underlying4
  a4 := Tryz.isAgg4
  z4 := Tryz.sizeOf4
  v4 := Tryz.zeroValue4 }
open Go.Lib in
theorem Tryz.internal_strconv_bool2_int (b : Bool) (w : World) :
    Calls Tryz.prog 127 #[.bool b] w fun e w' => e = .returned (.int .i64 (if b then 1 else 0)) ∧ w' = w := Any.internal_strconv_bool2_int Tryz.lays318 b w
def Tryz.lays283_ren : Go.Shelf.Ren := ⟨fun | 283 => 108 | n => n, fun | 3 => 3 | 9 => 9 | 4 => 4 | n => n, fun | n => n⟩
theorem Tryz.lays283 : Go.Proofs.Lays.n283 Tryz.prog Tryz.lays283_ren := {
  mixed := by kernel_rfl
  f283 := Tryz.func108.trans (congrArg some (by kernel_rfl))
  t3 := Tryz.underlying3
  a3 := Tryz.isAgg3
  z3 := Tryz.sizeOf3
  v3 := Tryz.zeroValue3
  t4 := Tryz.underlying4
  a4 := Tryz.isAgg4
  z4 := Tryz.sizeOf4
  v4 := Tryz.zeroValue4
  t9 := Tryz.underlying9
  a9 := Tryz.isAgg9
  z9 := Tryz.sizeOf9
  v9 := Tryz.zeroValue9 }
open Go.Lib in
theorem Tryz.internal_strconv_small (i : Nat) (h : i < 100) (w : World) :
    Calls Tryz.prog 108 #[.int .i64 i] w fun e w' => e = .returned (.string ⟨(Lib.decDigits i).toArray⟩) ∧ w' = w := Any.internal_strconv_small Tryz.lays283 i h w
def Tryz.laysM284_ren : Go.Shelf.Ren := ⟨fun | 284 => 94 | 129 => 91 | 317 => 95 | 318 => 127 | n => n, fun | 53 => 22 | 3 => 3 | 212 => 148 | 0 => 0 | 4 => 4 | 46 => 48 | 5 => 5 | 9 => 9 | n => n, fun | 17 => 7 | n => n⟩
theorem Tryz.laysM284 : Go.Proofs.LaysM.n284 Tryz.prog Tryz.laysM284_ren := {
  mixed := by kernel_rfl
  f129 := Tryz.func91.trans (congrArg some (by kernel_rfl))
  f284 := Tryz.func94.trans (congrArg some (by kernel_rfl))
  f317 := Tryz.func95.trans (congrArg some (by kernel_rfl))
  f318 := Tryz.func127.trans (congrArg some (by kernel_rfl))
  t0 := Tryz.underlying0
  a0 := Tryz.isAgg0
  z0 := Tryz.sizeOf0
  v0 := Tryz.zeroValue0
  t3 := Tryz.underlying3
  a3 := Tryz.isAgg3
  z3 := Tryz.sizeOf3
  v3 := Tryz.zeroValue3
  t4 := Tryz.underlying4
  a4 := Tryz.isAgg4
  z4 := Tryz.sizeOf4
  v4 := Tryz.zeroValue4
  t5 := Tryz.underlying5
  a5 := Tryz.isAgg5
  z5 := Tryz.sizeOf5
  v5 := Tryz.zeroValue5
  t9 := Tryz.underlying9
  a9 := Tryz.isAgg9
  z9 := Tryz.sizeOf9
  v9 := Tryz.zeroValue9
  t46 := Tryz.underlying48
  a46 := Tryz.isAgg48
  z46 := Tryz.sizeOf48
  v46 := Tryz.zeroValue48
  t53 := Tryz.underlying22
  a53 := Tryz.isAgg22
  z53 := Tryz.sizeOf22
  v53 := Tryz.zeroValue22
  t212 := Tryz.underlying148
  a212 := Tryz.isAgg148
  z212 := Tryz.sizeOf148
  v212 := Tryz.zeroValue148
  g17 := by kernel_rfl
  i0 := by kernel_rfl
  i3 := by kernel_rfl
  i4 := by kernel_rfl
  i5 := by kernel_rfl
  i9 := by kernel_rfl
  i46 := by kernel_rfl
  i53 := by kernel_rfl
  i212 := by kernel_rfl
  m17 := by kernel_rfl }
open Go.Lib in
theorem Tryz.internal_strconv_numDigits (u : Nat) (h1 : 1 ≤ u) (h2 : u < 18446744073709551616) (w : World) (htab : Lib.TabIs Tryz.prog w "internal/strconv.uint64pow10" .u64 Lib.pow10Tab) :
    Calls Tryz.prog 94 #[.int .u64 u] w fun e w' => e = .returned (.int .i64 (Lib.nDigits u)) ∧ w' = w := Any.internal_strconv_numDigits Tryz.laysM284 u h1 h2 w htab
def Tryz.lays285_ren : Go.Shelf.Ren := ⟨fun | 285 => 109 | n => n, fun | 37 => 53 | 53 => 22 | 3 => 3 | 4 => 4 | 51 => 59 | 9 => 9 | 5 => 5 | 0 => 0 | n => n, fun | n => n⟩
theorem Tryz.lays285 : Go.Proofs.Lays.n285 Tryz.prog Tryz.lays285_ren := {
  mixed := by kernel_rfl
  f285 := Tryz.func109.trans (congrArg some (by kernel_rfl))
  t0 := Tryz.underlying0
  a0 := Tryz.isAgg0
  z0 := Tryz.sizeOf0
  v0 := Tryz.zeroValue0
  t3 := Tryz.underlying3
  a3 := Tryz.isAgg3
  z3 := Tryz.sizeOf3
  v3 := Tryz.zeroValue3
  t4 := Tryz.underlying4
  a4 := Tryz.isAgg4
  z4 := Tryz.sizeOf4
  v4 := Tryz.zeroValue4
  t5 := Tryz.underlying5
  a5 := Tryz.isAgg5
  z5 := Tryz.sizeOf5
  v5 := Tryz.zeroValue5
  t9 := Tryz.underlying9
  a9 := Tryz.isAgg9
  z9 := Tryz.sizeOf9
  v9 := Tryz.zeroValue9
  t37 := Tryz.underlying53
  a37 := Tryz.isAgg53
  z37 := Tryz.sizeOf53
  v37 := Tryz.zeroValue53
  t51 := Tryz.underlying59
  a51 := Tryz.isAgg59
  z51 := Tryz.sizeOf59
  v51 := Tryz.zeroValue59
  t53 := Tryz.underlying22
  a53 := Tryz.isAgg22
  z53 := Tryz.sizeOf22
  v53 := Tryz.zeroValue22 }
open Go.RowKit Go.Sort Go.Lib in
theorem Tryz.internal_strconv_formatBase10 (blk off cap : Nat) (u : Nat) (d : Array UInt8) (w : World) (hH : Holds (fun (b : UInt8) => Value.int .u8 (b.toNat : Int)) w blk off d) (hu : u < 10 ^ d.size) (hu64 : u < 18446744073709551616) (hsz : d.size < 4611686018427387904) :
    Calls Tryz.prog 109 #[.slice (some ⟨blk, off, none⟩) d.size cap, .int .u64 u] w fun e w' =>
      e = .returned (.tuple #[]) ∧ ∃ (n v' : Nat) (dk : Array UInt8), w' = (putRow (fun (b : UInt8) => Value.int .u8 (b.toNat : Int)) w blk off dk).drewN n ∧ FmtInv d.size u 0 v' dk := Any.internal_strconv_formatBase10 Tryz.lays285 blk off cap u d w hH hu hu64 hsz
def Tryz.laysM246_ren : Go.Shelf.Ren := ⟨fun | 246 => 78 | 283 => 108 | 284 => 94 | 285 => 109 | 286 => 110 | 129 => 91 | 317 => 95 | 318 => 127 | 319 => 139 | 320 => 140 | 337 => 147 | 338 => 148 | n => n, fun | 2 => 2 | 3 => 3 | 9 => 9 | 4 => 4 | 171 => 114 | 0 => 0 | 53 => 22 | 37 => 53 | 5 => 5 | 173 => 131 | 212 => 148 | 51 => 59 | 20 => 20 | 213 => 158 | 46 => 48 | 232 => 108 | 233 => 174 | n => n, fun | 17 => 7 | 18 => 10 | 19 => 11 | n => n⟩
theorem Tryz.laysM246 : Go.Proofs.LaysM.n246 Tryz.prog Tryz.laysM246_ren := {
  mixed := by kernel_rfl
  f129 := Tryz.func91.trans (congrArg some (by kernel_rfl))
  f246 := Tryz.func78.trans (congrArg some (by kernel_rfl))
  f283 := Tryz.func108.trans (congrArg some (by kernel_rfl))
  f284 := Tryz.func94.trans (congrArg some (by kernel_rfl))
  f285 := Tryz.func109.trans (congrArg some (by kernel_rfl))
  f286 := Tryz.func110.trans (congrArg some (by kernel_rfl))
  f317 := Tryz.func95.trans (congrArg some (by kernel_rfl))
  f318 := Tryz.func127.trans (congrArg some (by kernel_rfl))
  f319 := Tryz.func139.trans (congrArg some (by kernel_rfl))
  f320 := Tryz.func140.trans (congrArg some (by kernel_rfl))
  f337 := Tryz.func147.trans (congrArg some (by kernel_rfl))
  f338 := Tryz.func148.trans (congrArg some (by kernel_rfl))
  t0 := Tryz.underlying0
  a0 := Tryz.isAgg0
  z0 := Tryz.sizeOf0
  v0 := Tryz.zeroValue0
  t2 := Tryz.underlying2
  a2 := Tryz.isAgg2
  z2 := Tryz.sizeOf2
  v2 := Tryz.zeroValue2
  t3 := Tryz.underlying3
  a3 := Tryz.isAgg3
  z3 := Tryz.sizeOf3
  v3 := Tryz.zeroValue3
  t4 := Tryz.underlying4
  a4 := Tryz.isAgg4
  z4 := Tryz.sizeOf4
  v4 := Tryz.zeroValue4
  t5 := Tryz.underlying5
  a5 := Tryz.isAgg5
  z5 := Tryz.sizeOf5
  v5 := Tryz.zeroValue5
  t9 := Tryz.underlying9
  a9 := Tryz.isAgg9
  z9 := Tryz.sizeOf9
  v9 := Tryz.zeroValue9
  t20 := Tryz.underlying20
  a20 := Tryz.isAgg20
  z20 := Tryz.sizeOf20
  v20 := Tryz.zeroValue20
  t37 := Tryz.underlying53
  a37 := Tryz.isAgg53
  z37 := Tryz.sizeOf53
  v37 := Tryz.zeroValue53
  t46 := Tryz.underlying48
  a46 := Tryz.isAgg48
  z46 := Tryz.sizeOf48
  v46 := Tryz.zeroValue48
  t51 := Tryz.underlying59
  a51 := Tryz.isAgg59
  z51 := Tryz.sizeOf59
  v51 := Tryz.zeroValue59
  t53 := Tryz.underlying22
  a53 := Tryz.isAgg22
  z53 := Tryz.sizeOf22
  v53 := Tryz.zeroValue22
  t171 := Tryz.underlying114
  a171 := Tryz.isAgg114
  z171 := Tryz.sizeOf114
  v171 := Tryz.zeroValue114
  t173 := Tryz.underlying131
  a173 := Tryz.isAgg131
  z173 := Tryz.sizeOf131
  v173 := Tryz.zeroValue131
  t212 := Tryz.underlying148
  a212 := Tryz.isAgg148
  z212 := Tryz.sizeOf148
  v212 := Tryz.zeroValue148
  t213 := Tryz.underlying158
  a213 := Tryz.isAgg158
  z213 := Tryz.sizeOf158
  t232 := Tryz.underlying108
  a232 := Tryz.isAgg108
  z232 := Tryz.sizeOf108
  v232 := Tryz.zeroValue108
  t233 := Tryz.underlying174
  a233 := Tryz.isAgg174
  z233 := Tryz.sizeOf174
  v233 := Tryz.zeroValue174
  g17 := by kernel_rfl
  g18 := by kernel_rfl
  g19 := by kernel_rfl
  i0 := by kernel_rfl
  i2 := by kernel_rfl
  i3 := by kernel_rfl
  i4 := by kernel_rfl
  i5 := by kernel_rfl
  i9 := by kernel_rfl
  i20 := by kernel_rfl
  i37 := by kernel_rfl
  i46 := by kernel_rfl
  i51 := by kernel_rfl
  i53 := by kernel_rfl
  i171 := by kernel_rfl
  i173 := by kernel_rfl
  i212 := by kernel_rfl
  i232 := by kernel_rfl
  i233 := by kernel_rfl
  m17 := by kernel_rfl
  m18 := by kernel_rfl
  m19 := by kernel_rfl }
open Go.RowKit Go.Sort Go.Lib in
theorem Tryz.internal_strconv_FormatInt_10 (n : Int) (h0 : -9223372036854775808 ≤ n) (h1 : n ≤ 9223372036854775807) (w : World) (htab : Lib.TabIs Tryz.prog w "internal/strconv.uint64pow10" .u64 Lib.pow10Tab) :
    Calls Tryz.prog 78 #[.int .i64 n, .int .i64 10] w fun e w' => e = .returned (.string ⟨(Lib.itoa n).toArray⟩) ∧ ∃ k os, w' = grow (w.drewN k) os := Any.internal_strconv_FormatInt_10 Tryz.laysM246 n h0 h1 w htab
def Tryz.lays246_ren : Go.Shelf.Ren := ⟨fun | 246 => 78 | 283 => 108 | 284 => 94 | 285 => 109 | 286 => 110 | 129 => 91 | 317 => 95 | 318 => 127 | 319 => 139 | 320 => 140 | 337 => 147 | 338 => 148 | n => n, fun | 2 => 2 | 3 => 3 | 9 => 9 | 4 => 4 | 171 => 114 | 0 => 0 | 53 => 22 | 37 => 53 | 5 => 5 | 173 => 131 | 212 => 148 | 51 => 59 | 20 => 20 | 213 => 158 | 46 => 48 | 232 => 108 | 233 => 174 | n => n, fun | 17 => 7 | 18 => 10 | 19 => 11 | n => n⟩
theorem Tryz.lays246 : Go.Proofs.Lays.n246 Tryz.prog Tryz.lays246_ren := {
  mixed := by kernel_rfl
  f129 := Tryz.func91.trans (congrArg some (by kernel_rfl))
  f246 := Tryz.func78.trans (congrArg some (by kernel_rfl))
  f283 := Tryz.func108.trans (congrArg some (by kernel_rfl))
  f284 := Tryz.func94.trans (congrArg some (by kernel_rfl))
  f285 := Tryz.func109.trans (congrArg some (by kernel_rfl))
  f286 := Tryz.func110.trans (congrArg some (by kernel_rfl))
  f317 := Tryz.func95.trans (congrArg some (by kernel_rfl))
  f318 := Tryz.func127.trans (congrArg some (by kernel_rfl))
  f319 := Tryz.func139.trans (congrArg some (by kernel_rfl))
  f320 := Tryz.func140.trans (congrArg some (by kernel_rfl))
  f337 := Tryz.func147.trans (congrArg some (by kernel_rfl))
  f338 := Tryz.func148.trans (congrArg some (by kernel_rfl))
  t0 := Tryz.underlying0
  a0 := Tryz.isAgg0
  z0 := Tryz.sizeOf0
  v0 := Tryz.zeroValue0
  t2 := Tryz.underlying2
  a2 := Tryz.isAgg2
  z2 := Tryz.sizeOf2
  v2 := Tryz.zeroValue2
  t3 := Tryz.underlying3
  a3 := Tryz.isAgg3
  z3 := Tryz.sizeOf3
  v3 := Tryz.zeroValue3
  t4 := Tryz.underlying4
  a4 := Tryz.isAgg4
  z4 := Tryz.sizeOf4
  v4 := Tryz.zeroValue4
  t5 := Tryz.underlying5
  a5 := Tryz.isAgg5
  z5 := Tryz.sizeOf5
  v5 := Tryz.zeroValue5
  t9 := Tryz.underlying9
  a9 := Tryz.isAgg9
  z9 := Tryz.sizeOf9
  v9 := Tryz.zeroValue9
  t20 := Tryz.underlying20
  a20 := Tryz.isAgg20
  z20 := Tryz.sizeOf20
  v20 := Tryz.zeroValue20
  t37 := Tryz.underlying53
  a37 := Tryz.isAgg53
  z37 := Tryz.sizeOf53
  v37 := Tryz.zeroValue53
  t46 := Tryz.underlying48
  a46 := Tryz.isAgg48
  z46 := Tryz.sizeOf48
  v46 := Tryz.zeroValue48
  t51 := Tryz.underlying59
  a51 := Tryz.isAgg59
  z51 := Tryz.sizeOf59
  v51 := Tryz.zeroValue59
  t53 := Tryz.underlying22
  a53 := Tryz.isAgg22
  z53 := Tryz.sizeOf22
  v53 := Tryz.zeroValue22
  t171 := Tryz.underlying114
  a171 := Tryz.isAgg114
  z171 := Tryz.sizeOf114
  v171 := Tryz.zeroValue114
  t173 := Tryz.underlying131
  a173 := Tryz.isAgg131
  z173 := Tryz.sizeOf131
  v173 := Tryz.zeroValue131
  t212 := Tryz.underlying148
  a212 := Tryz.isAgg148
  z212 := Tryz.sizeOf148
  v212 := Tryz.zeroValue148
  t213 := Tryz.underlying158
  a213 := Tryz.isAgg158
  z213 := Tryz.sizeOf158
  t232 := Tryz.underlying108
  a232 := Tryz.isAgg108
  z232 := Tryz.sizeOf108
  v232 := Tryz.zeroValue108
  t233 := Tryz.underlying174
  a233 := Tryz.isAgg174
  z233 := Tryz.sizeOf174
  v233 := Tryz.zeroValue174
  g17 := by kernel_rfl
  g18 := by kernel_rfl
  g19 := by kernel_rfl }
open Go.RowKit Go.Sort Go.Lib in
theorem Tryz.internal_strconv_FormatInt_10_small (i : Nat) (hi : i < 100) (w : World) :
    Calls Tryz.prog 78 #[.int .i64 i, .int .i64 10] w fun e w' => e = .returned (.string ⟨(Lib.decDigits i).toArray⟩) ∧ w' = w := Any.internal_strconv_FormatInt_10_small Tryz.lays246 i hi w
def Tryz.laysM243_ren : Go.Shelf.Ren := ⟨fun | 243 => 54 | 246 => 78 | 283 => 108 | 284 => 94 | 285 => 109 | 286 => 110 | 129 => 91 | 317 => 95 | 318 => 127 | 319 => 139 | 320 => 140 | 337 => 147 | 338 => 148 | n => n, fun | 3 => 3 | 9 => 9 | 2 => 2 | 4 => 4 | 171 => 114 | 0 => 0 | 53 => 22 | 37 => 53 | 5 => 5 | 173 => 131 | 212 => 148 | 51 => 59 | 20 => 20 | 213 => 158 | 46 => 48 | 232 => 108 | 233 => 174 | n => n, fun | 17 => 7 | 18 => 10 | 19 => 11 | n => n⟩
theorem Tryz.laysM243 : Go.Proofs.LaysM.n243 Tryz.prog Tryz.laysM243_ren := {
  mixed := by kernel_rfl
  f129 := Tryz.func91.trans (congrArg some (by kernel_rfl))
  f243 := Tryz.func54.trans (congrArg some (by kernel_rfl))
  f246 := Tryz.func78.trans (congrArg some (by kernel_rfl))
  f283 := Tryz.func108.trans (congrArg some (by kernel_rfl))
  f284 := Tryz.func94.trans (congrArg some (by kernel_rfl))
  f285 := Tryz.func109.trans (congrArg some (by kernel_rfl))
  f286 := Tryz.func110.trans (congrArg some (by kernel_rfl))
  f317 := Tryz.func95.trans (congrArg some (by kernel_rfl))
  f318 := Tryz.func127.trans (congrArg some (by kernel_rfl))
  f319 := Tryz.func139.trans (congrArg some (by kernel_rfl))
  f320 := Tryz.func140.trans (congrArg some (by kernel_rfl))
  f337 := Tryz.func147.trans (congrArg some (by kernel_rfl))
  f338 := Tryz.func148.trans (congrArg some (by kernel_rfl))
  t0 := Tryz.underlying0
  a0 := Tryz.isAgg0
  z0 := Tryz.sizeOf0
  v0 := Tryz.zeroValue0
  t2 := Tryz.underlying2
  a2 := Tryz.isAgg2
  z2 := Tryz.sizeOf2
  v2 := Tryz.zeroValue2
  t3 := Tryz.underlying3
  a3 := Tryz.isAgg3
  z3 := Tryz.sizeOf3
  v3 := Tryz.zeroValue3
  t4 := Tryz.underlying4
  a4 := Tryz.isAgg4
  z4 := Tryz.sizeOf4
  v4 := Tryz.zeroValue4
  t5 := Tryz.underlying5
  a5 := Tryz.isAgg5
  z5 := Tryz.sizeOf5
  v5 := Tryz.zeroValue5
  t9 := Tryz.underlying9
  a9 := Tryz.isAgg9
  z9 := Tryz.sizeOf9
  v9 := Tryz.zeroValue9
  t20 := Tryz.underlying20
  a20 := Tryz.isAgg20
  z20 := Tryz.sizeOf20
  v20 := Tryz.zeroValue20
  t37 := Tryz.underlying53
  a37 := Tryz.isAgg53
  z37 := Tryz.sizeOf53
  v37 := Tryz.zeroValue53
  t46 := Tryz.underlying48
  a46 := Tryz.isAgg48
  z46 := Tryz.sizeOf48
  v46 := Tryz.zeroValue48
  t51 := Tryz.underlying59
  a51 := Tryz.isAgg59
  z51 := Tryz.sizeOf59
  v51 := Tryz.zeroValue59
  t53 := Tryz.underlying22
  a53 := Tryz.isAgg22
  z53 := Tryz.sizeOf22
  v53 := Tryz.zeroValue22
  t171 := Tryz.underlying114
  a171 := Tryz.isAgg114
  z171 := Tryz.sizeOf114
  v171 := Tryz.zeroValue114
  t173 := Tryz.underlying131
  a173 := Tryz.isAgg131
  z173 := Tryz.sizeOf131
  v173 := Tryz.zeroValue131
  t212 := Tryz.underlying148
  a212 := Tryz.isAgg148
  z212 := Tryz.sizeOf148
  v212 := Tryz.zeroValue148
  t213 := Tryz.underlying158
  a213 := Tryz.isAgg158
  z213 := Tryz.sizeOf158
  t232 := Tryz.underlying108
  a232 := Tryz.isAgg108
  z232 := Tryz.sizeOf108
  v232 := Tryz.zeroValue108
  t233 := Tryz.underlying174
  a233 := Tryz.isAgg174
  z233 := Tryz.sizeOf174
  v233 := Tryz.zeroValue174
  g17 := by kernel_rfl
  g18 := by kernel_rfl
  g19 := by kernel_rfl
  i0 := by kernel_rfl
  i2 := by kernel_rfl
  i3 := by kernel_rfl
  i4 := by kernel_rfl
  i5 := by kernel_rfl
  i9 := by kernel_rfl
  i20 := by kernel_rfl
  i37 := by kernel_rfl
  i46 := by kernel_rfl
  i51 := by kernel_rfl
  i53 := by kernel_rfl
  i171 := by kernel_rfl
  i173 := by kernel_rfl
  i212 := by kernel_rfl
  i232 := by kernel_rfl
  i233 := by kernel_rfl
  m17 := by kernel_rfl
  m18 := by kernel_rfl
  m19 := by kernel_rfl }
open Go.RowKit Go.Sort Go.Lib in
theorem Tryz.internal_strconv_Itoa (n : Int) (h0 : -9223372036854775808 ≤ n) (h1 : n ≤ 9223372036854775807) (w : World) (htab : Lib.TabIs Tryz.prog w "internal/strconv.uint64pow10" .u64 Lib.pow10Tab) :
    Calls Tryz.prog 54 #[.int .i64 n] w fun e w' => e = .returned (.string ⟨(Lib.itoa n).toArray⟩) ∧ ∃ k os, w' = grow (w.drewN k) os := Any.internal_strconv_Itoa Tryz.laysM243 n h0 h1 w htab
def Tryz.lays243_ren : Go.Shelf.Ren := ⟨fun | 243 => 54 | 246 => 78 | 283 => 108 | 284 => 94 | 285 => 109 | 286 => 110 | 129 => 91 | 317 => 95 | 318 => 127 | 319 => 139 | 320 => 140 | 337 => 147 | 338 => 148 | n => n, fun | 3 => 3 | 9 => 9 | 2 => 2 | 4 => 4 | 171 => 114 | 0 => 0 | 53 => 22 | 37 => 53 | 5 => 5 | 173 => 131 | 212 => 148 | 51 => 59 | 20 => 20 | 213 => 158 | 46 => 48 | 232 => 108 | 233 => 174 | n => n, fun | 17 => 7 | 18 => 10 | 19 => 11 | n => n⟩
theorem Tryz.lays243 : Go.Proofs.Lays.n243 Tryz.prog Tryz.lays243_ren := {
  mixed := by kernel_rfl
  f129 := Tryz.func91.trans (congrArg some (by kernel_rfl))
  f243 := Tryz.func54.trans (congrArg some (by kernel_rfl))
  f246 := Tryz.func78.trans (congrArg some (by kernel_rfl))
  f283 := Tryz.func108.trans (congrArg some (by kernel_rfl))
  f284 := Tryz.func94.trans (congrArg some (by kernel_rfl))
  f285 := Tryz.func109.trans (congrArg some (by kernel_rfl))
  f286 := Tryz.func110.trans (congrArg some (by kernel_rfl))
  f317 := Tryz.func95.trans (congrArg some (by kernel_rfl))
  f318 := Tryz.func127.trans (congrArg some (by kernel_rfl))
  f319 := Tryz.func139.trans (congrArg some (by kernel_rfl))
  f320 := Tryz.func140.trans (congrArg some (by kernel_rfl))
  f337 := Tryz.func147.trans (congrArg some (by kernel_rfl))
  f338 := Tryz.func148.trans (congrArg some (by kernel_rfl))
  t0 := Tryz.underlying0
  a0 := Tryz.isAgg0
  z0 := Tryz.sizeOf0
  v0 := Tryz.zeroValue0
  t2 := Tryz.underlying2
  a2 := Tryz.isAgg2
  z2 := Tryz.sizeOf2
  v2 := Tryz.zeroValue2
  t3 := Tryz.underlying3
  a3 := Tryz.isAgg3
  z3 := Tryz.sizeOf3
  v3 := Tryz.zeroValue3
  t4 := Tryz.underlying4
  a4 := Tryz.isAgg4
  z4 := Tryz.sizeOf4
  v4 := Tryz.zeroValue4
  t5 := Tryz.underlying5
  a5 := Tryz.isAgg5
  z5 := Tryz.sizeOf5
  v5 := Tryz.zeroValue5
  t9 := Tryz.underlying9
  a9 := Tryz.isAgg9
  z9 := Tryz.sizeOf9
  v9 := Tryz.zeroValue9
  t20 := Tryz.underlying20
  a20 := Tryz.isAgg20
  z20 := Tryz.sizeOf20
  v20 := Tryz.zeroValue20
  t37 := Tryz.underlying53
  a37 := Tryz.isAgg53
  z37 := Tryz.sizeOf53
  v37 := Tryz.zeroValue53
  t46 := Tryz.underlying48
  a46 := Tryz.isAgg48
  z46 := Tryz.sizeOf48
  v46 := Tryz.zeroValue48
  t51 := Tryz.underlying59
  a51 := Tryz.isAgg59
  z51 := Tryz.sizeOf59
  v51 := Tryz.zeroValue59
  t53 := Tryz.underlying22
  a53 := Tryz.isAgg22
  z53 := Tryz.sizeOf22
  v53 := Tryz.zeroValue22
  t171 := Tryz.underlying114
  a171 := Tryz.isAgg114
  z171 := Tryz.sizeOf114
  v171 := Tryz.zeroValue114
  t173 := Tryz.underlying131
  a173 := Tryz.isAgg131
  z173 := Tryz.sizeOf131
  v173 := Tryz.zeroValue131
  t212 := Tryz.underlying148
  a212 := Tryz.isAgg148
  z212 := Tryz.sizeOf148
  v212 := Tryz.zeroValue148
  t213 := Tryz.underlying158
  a213 := Tryz.isAgg158
  z213 := Tryz.sizeOf158
  t232 := Tryz.underlying108
  a232 := Tryz.isAgg108
  z232 := Tryz.sizeOf108
  v232 := Tryz.zeroValue108
  t233 := Tryz.underlying174
  a233 := Tryz.isAgg174
  z233 := Tryz.sizeOf174
  v233 := Tryz.zeroValue174
  g17 := by kernel_rfl
  g18 := by kernel_rfl
  g19 := by kernel_rfl }
open Go.RowKit Go.Sort Go.Lib in
theorem Tryz.internal_strconv_Itoa_small (i : Nat) (hi : i < 100) (w : World) :
    Calls Tryz.prog 54 #[.int .i64 i] w fun e w' => e = .returned (.string ⟨(Lib.decDigits i).toArray⟩) ∧ w' = w := Any.internal_strconv_Itoa_small Tryz.lays243 i hi w
def Tryz.laysM171_ren : Go.Shelf.Ren := ⟨fun | 171 => 31 | 243 => 54 | 246 => 78 | 283 => 108 | 284 => 94 | 285 => 109 | 286 => 110 | 129 => 91 | 317 => 95 | 318 => 127 | 319 => 139 | 320 => 140 | 337 => 147 | 338 => 148 | n => n, fun | 3 => 3 | 9 => 9 | 2 => 2 | 4 => 4 | 171 => 114 | 0 => 0 | 53 => 22 | 37 => 53 | 5 => 5 | 173 => 131 | 212 => 148 | 51 => 59 | 20 => 20 | 213 => 158 | 46 => 48 | 232 => 108 | 233 => 174 | n => n, fun | 17 => 7 | 18 => 10 | 19 => 11 | n => n⟩
theorem Tryz.laysM171 : Go.Proofs.LaysM.n171 Tryz.prog Tryz.laysM171_ren := {
  mixed := by kernel_rfl
  f129 := Tryz.func91.trans (congrArg some (by kernel_rfl))
  f171 := Tryz.func31.trans (congrArg some (by kernel_rfl))
  f243 := Tryz.func54.trans (congrArg some (by kernel_rfl))
  f246 := Tryz.func78.trans (congrArg some (by kernel_rfl))
  f283 := Tryz.func108.trans (congrArg some (by kernel_rfl))
  f284 := Tryz.func94.trans (congrArg some (by kernel_rfl))
  f285 := Tryz.func109.trans (congrArg some (by kernel_rfl))
  f286 := Tryz.func110.trans (congrArg some (by kernel_rfl))
  f317 := Tryz.func95.trans (congrArg some (by kernel_rfl))
  f318 := Tryz.func127.trans (congrArg some (by kernel_rfl))
  f319 := Tryz.func139.trans (congrArg some (by kernel_rfl))
  f320 := Tryz.func140.trans (congrArg some (by kernel_rfl))
  f337 := Tryz.func147.trans (congrArg some (by kernel_rfl))
  f338 := Tryz.func148.trans (congrArg some (by kernel_rfl))
  t0 := Tryz.underlying0
  a0 := Tryz.isAgg0
  z0 := Tryz.sizeOf0
  v0 := Tryz.zeroValue0
  t2 := Tryz.underlying2
  a2 := Tryz.isAgg2
  z2 := Tryz.sizeOf2
  v2 := Tryz.zeroValue2
  t3 := Tryz.underlying3
  a3 := Tryz.isAgg3
  z3 := Tryz.sizeOf3
  v3 := Tryz.zeroValue3
  t4 := Tryz.underlying4
  a4 := Tryz.isAgg4
  z4 := Tryz.sizeOf4
  v4 := Tryz.zeroValue4
  t5 := Tryz.underlying5
  a5 := Tryz.isAgg5
  z5 := Tryz.sizeOf5
  v5 := Tryz.zeroValue5
  t9 := Tryz.underlying9
  a9 := Tryz.isAgg9
  z9 := Tryz.sizeOf9
  v9 := Tryz.zeroValue9
  t20 := Tryz.underlying20
  a20 := Tryz.isAgg20
  z20 := Tryz.sizeOf20
  v20 := Tryz.zeroValue20
  t37 := Tryz.underlying53
  a37 := Tryz.isAgg53
  z37 := Tryz.sizeOf53
  v37 := Tryz.zeroValue53
  t46 := Tryz.underlying48
  a46 := Tryz.isAgg48
  z46 := Tryz.sizeOf48
  v46 := Tryz.zeroValue48
  t51 := Tryz.underlying59
  a51 := Tryz.isAgg59
  z51 := Tryz.sizeOf59
  v51 := Tryz.zeroValue59
  t53 := Tryz.underlying22
  a53 := Tryz.isAgg22
  z53 := Tryz.sizeOf22
  v53 := Tryz.zeroValue22
  t171 := Tryz.underlying114
  a171 := Tryz.isAgg114
  z171 := Tryz.sizeOf114
  v171 := Tryz.zeroValue114
  t173 := Tryz.underlying131
  a173 := Tryz.isAgg131
  z173 := Tryz.sizeOf131
  v173 := Tryz.zeroValue131
  t212 := Tryz.underlying148
  a212 := Tryz.isAgg148
  z212 := Tryz.sizeOf148
  v212 := Tryz.zeroValue148
  t213 := Tryz.underlying158
  a213 := Tryz.isAgg158
  z213 := Tryz.sizeOf158
  t232 := Tryz.underlying108
  a232 := Tryz.isAgg108
  z232 := Tryz.sizeOf108
  v232 := Tryz.zeroValue108
  t233 := Tryz.underlying174
  a233 := Tryz.isAgg174
  z233 := Tryz.sizeOf174
  v233 := Tryz.zeroValue174
  g17 := by kernel_rfl
  g18 := by kernel_rfl
  g19 := by kernel_rfl
  i0 := by kernel_rfl
  i2 := by kernel_rfl
  i3 := by kernel_rfl
  i4 := by kernel_rfl
  i5 := by kernel_rfl
  i9 := by kernel_rfl
  i20 := by kernel_rfl
  i37 := by kernel_rfl
  i46 := by kernel_rfl
  i51 := by kernel_rfl
  i53 := by kernel_rfl
  i171 := by kernel_rfl
  i173 := by kernel_rfl
  i212 := by kernel_rfl
  i232 := by kernel_rfl
  i233 := by kernel_rfl
  m17 := by kernel_rfl
  m18 := by kernel_rfl
  m19 := by kernel_rfl }
open Go.RowKit Go.Sort Go.Lib in
theorem Tryz.strconv_Itoa (n : Int) (h0 : -9223372036854775808 ≤ n) (h1 : n ≤ 9223372036854775807) (w : World) (htab : Lib.TabIs Tryz.prog w "internal/strconv.uint64pow10" .u64 Lib.pow10Tab) :
    Calls Tryz.prog 31 #[.int .i64 n] w fun e w' => e = .returned (.string ⟨(Lib.itoa n).toArray⟩) ∧ ∃ k os, w' = grow (w.drewN k) os := Any.strconv_Itoa Tryz.laysM171 n h0 h1 w htab
def Tryz.lays171_ren : Go.Shelf.Ren := ⟨fun | 171 => 31 | 243 => 54 | 246 => 78 | 283 => 108 | 284 => 94 | 285 => 109 | 286 => 110 | 129 => 91 | 317 => 95 | 318 => 127 | 319 => 139 | 320 => 140 | 337 => 147 | 338 => 148 | n => n, fun | 3 => 3 | 9 => 9 | 2 => 2 | 4 => 4 | 171 => 114 | 0 => 0 | 53 => 22 | 37 => 53 | 5 => 5 | 173 => 131 | 212 => 148 | 51 => 59 | 20 => 20 | 213 => 158 | 46 => 48 | 232 => 108 | 233 => 174 | n => n, fun | 17 => 7 | 18 => 10 | 19 => 11 | n => n⟩
theorem Tryz.lays171 : Go.Proofs.Lays.n171 Tryz.prog Tryz.lays171_ren := {
  mixed := by kernel_rfl
  f129 := Tryz.func91.trans (congrArg some (by kernel_rfl))
  f171 := Tryz.func31.trans (congrArg some (by kernel_rfl))
  f243 := Tryz.func54.trans (congrArg some (by kernel_rfl))
  f246 := Tryz.func78.trans (congrArg some (by kernel_rfl))
  f283 := Tryz.func108.trans (congrArg some (by kernel_rfl))
  f284 := Tryz.func94.trans (congrArg some (by kernel_rfl))
  f285 := Tryz.func109.trans (congrArg some (by kernel_rfl))
  f286 := Tryz.func110.trans (congrArg some (by kernel_rfl))
  f317 := Tryz.func95.trans (congrArg some (by kernel_rfl))
  f318 := Tryz.func127.trans (congrArg some (by kernel_rfl))
  f319 := Tryz.func139.trans (congrArg some (by kernel_rfl))
  f320 := Tryz.func140.trans (congrArg some (by kernel_rfl))
  f337 := Tryz.func147.trans (congrArg some (by kernel_rfl))
  f338 := Tryz.func148.trans (congrArg some (by kernel_rfl))
  t0 := Tryz.underlying0
  a0 := Tryz.isAgg0
  z0 := Tryz.sizeOf0
  v0 := Tryz.zeroValue0
  t2 := Tryz.underlying2
  a2 := Tryz.isAgg2
  z2 := Tryz.sizeOf2
  v2 := Tryz.zeroValue2
  t3 := Tryz.underlying3
  a3 := Tryz.isAgg3
  z3 := Tryz.sizeOf3
  v3 := Tryz.zeroValue3
  t4 := Tryz.underlying4
  a4 := Tryz.isAgg4
  z4 := Tryz.sizeOf4
  v4 := Tryz.zeroValue4
  t5 := Tryz.underlying5
  a5 := Tryz.isAgg5
  z5 := Tryz.sizeOf5
  v5 := Tryz.zeroValue5
  t9 := Tryz.underlying9
  a9 := Tryz.isAgg9
  z9 := Tryz.sizeOf9
  v9 := Tryz.zeroValue9
  t20 := Tryz.underlying20
  a20 := Tryz.isAgg20
  z20 := Tryz.sizeOf20
  v20 := Tryz.zeroValue20
  t37 := Tryz.underlying53
  a37 := Tryz.isAgg53
  z37 := Tryz.sizeOf53
  v37 := Tryz.zeroValue53
  t46 := Tryz.underlying48
  a46 := Tryz.isAgg48
  z46 := Tryz.sizeOf48
  v46 := Tryz.zeroValue48
  t51 := Tryz.underlying59
  a51 := Tryz.isAgg59
  z51 := Tryz.sizeOf59
  v51 := Tryz.zeroValue59
  t53 := Tryz.underlying22
  a53 := Tryz.isAgg22
  z53 := Tryz.sizeOf22
  v53 := Tryz.zeroValue22
  t171 := Tryz.underlying114
  a171 := Tryz.isAgg114
  z171 := Tryz.sizeOf114
  v171 := Tryz.zeroValue114
  t173 := Tryz.underlying131
  a173 := Tryz.isAgg131
  z173 := Tryz.sizeOf131
  v173 := Tryz.zeroValue131
  t212 := Tryz.underlying148
  a212 := Tryz.isAgg148
  z212 := Tryz.sizeOf148
  v212 := Tryz.zeroValue148
  t213 := Tryz.underlying158
  a213 := Tryz.isAgg158
  z213 := Tryz.sizeOf158
  t232 := Tryz.underlying108
  a232 := Tryz.isAgg108
  z232 := Tryz.sizeOf108
  v232 := Tryz.zeroValue108
  t233 := Tryz.underlying174
  a233 := Tryz.isAgg174
  z233 := Tryz.sizeOf174
  v233 := Tryz.zeroValue174
  g17 := by kernel_rfl
  g18 := by kernel_rfl
  g19 := by kernel_rfl }
open Go.RowKit Go.Sort Go.Lib in
theorem Tryz.strconv_Itoa_small (i : Nat) (hi : i < 100) (w : World) :
    Calls Tryz.prog 31 #[.int .i64 i] w fun e w' => e = .returned (.string ⟨(Lib.decDigits i).toArray⟩) ∧ w' = w := Any.strconv_Itoa_small Tryz.lays171 i hi w
def Tryz.lays217_ren : Go.Shelf.Ren := ⟨fun | 217 => 101 | 266 => 136 | n => n, fun | 9 => 9 | 5 => 5 | 3 => 3 | n => n, fun | n => n⟩
theorem Tryz.lays217 : Go.Proofs.Lays.n217 Tryz.prog Tryz.lays217_ren := {
  mixed := by kernel_rfl
  f217 := Tryz.func101.trans (congrArg some (by kernel_rfl))
  f266 := Tryz.func136.trans (congrArg some (by kernel_rfl))
  t3 := Tryz.underlying3
  a3 := Tryz.isAgg3
  z3 := Tryz.sizeOf3
  v3 := Tryz.zeroValue3
  t5 := Tryz.underlying5
  a5 := Tryz.isAgg5
  z5 := Tryz.sizeOf5
  v5 := Tryz.zeroValue5
  t9 := Tryz.underlying9
  a9 := Tryz.isAgg9
  z9 := Tryz.sizeOf9
  v9 := Tryz.zeroValue9 }
open Go.RowKit Go.Lib in
theorem Tryz.stringslite_IndexByte (s : ByteArray) (c : Int) (w : World) :
    Calls Tryz.prog 101 #[.string s, .int .u8 c] w fun e w' => e = .returned (.int .i64 (Lib.indexByte s.data.toList c.toNat.toUInt8)) ∧ w' = w := Any.stringslite_IndexByte Tryz.lays217 s c w
def Tryz.lays224_ren : Go.Shelf.Ren := ⟨fun | 224 => 103 | n => n, fun | 3 => 3 | n => n, fun | n => n⟩
theorem Tryz.lays224 : Go.Proofs.Lays.n224 Tryz.prog Tryz.lays224_ren := {
  mixed := by kernel_rfl
  f224 := Tryz.func103.trans (congrArg some (by kernel_rfl))
  t3 := Tryz.underlying3
  a3 := Tryz.isAgg3
  z3 := Tryz.sizeOf3
  v3 := Tryz.zeroValue3 }
open Go.RowKit Go.Lib in
theorem Tryz.bytealg_Cutover (n : Int) (h0 : 0 ≤ n) (h1 : n < 4611686018427387904) (w : World) :
    Calls Tryz.prog 103 #[.int .i64 n] w fun e w' => e = .returned (.int .i64 ((n + 16) / 8)) ∧ w' = w := Any.bytealg_Cutover Tryz.lays224 n h0 h1 w
def Tryz.lays314_ren : Go.Shelf.Ren := ⟨fun | 314 => 137 | n => n, fun | 9 => 9 | 51 => 59 | 3 => 3 | 4 => 4 | 5 => 5 | 46 => 48 | n => n, fun | n => n⟩
theorem Tryz.lays314 : Go.Proofs.Lays.n314 Tryz.prog Tryz.lays314_ren := {
  mixed := by kernel_rfl
  f314 := Tryz.func137.trans (congrArg some (by kernel_rfl))
  t3 := Tryz.underlying3
  a3 := Tryz.isAgg3
  z3 := Tryz.sizeOf3
  v3 := Tryz.zeroValue3
  t4 := Tryz.underlying4
  a4 := Tryz.isAgg4
  z4 := Tryz.sizeOf4
  v4 := Tryz.zeroValue4
  t5 := Tryz.underlying5
  a5 := Tryz.isAgg5
  z5 := Tryz.sizeOf5
  v5 := Tryz.zeroValue5
  t9 := Tryz.underlying9
  a9 := Tryz.isAgg9
  z9 := Tryz.sizeOf9
  v9 := Tryz.zeroValue9
  t46 := Tryz.underlying48
  a46 := Tryz.isAgg48
  z46 := Tryz.sizeOf48
  v46 := Tryz.zeroValue48
  t51 := Tryz.underlying59
  a51 := Tryz.isAgg59
  z51 := Tryz.sizeOf59
  v51 := Tryz.zeroValue59 }
open Go.RowKit Go.Lib in
theorem Tryz.bytealg_hashStr (sep : ByteArray) (hs : sep.size < 4294967281) (w : World) :
    Calls Tryz.prog 137 #[.string sep] w fun e w' => e = .returned (.tuple #[.int .u32 (RK.H sep.data.toList % 4294967296), .int .u32 (16777619 ^ sep.size % 4294967296)]) ∧ w' = w := Any.bytealg_hashStr Tryz.lays314 sep hs w
def Tryz.lays267_ren : Go.Shelf.Ren := ⟨fun | 267 => 104 | 314 => 137 | n => n, fun | 9 => 9 | 3 => 3 | 146 => 74 | 51 => 59 | 4 => 4 | 5 => 5 | 46 => 48 | n => n, fun | n => n⟩
theorem Tryz.lays267 : Go.Proofs.Lays.n267 Tryz.prog Tryz.lays267_ren := {
  mixed := by kernel_rfl
  f267 := Tryz.func104.trans (congrArg some (by kernel_rfl))
  f314 := Tryz.func137.trans (congrArg some (by kernel_rfl))
  t3 := Tryz.underlying3
  a3 := Tryz.isAgg3
  z3 := Tryz.sizeOf3
  v3 := Tryz.zeroValue3
  t4 := Tryz.underlying4
  a4 := Tryz.isAgg4
  z4 := Tryz.sizeOf4
  v4 := Tryz.zeroValue4
  t5 := Tryz.underlying5
  a5 := Tryz.isAgg5
  z5 := Tryz.sizeOf5
  v5 := Tryz.zeroValue5
  t9 := Tryz.underlying9
  a9 := Tryz.isAgg9
  z9 := Tryz.sizeOf9
  v9 := Tryz.zeroValue9
  t46 := Tryz.underlying48
  a46 := Tryz.isAgg48
  z46 := Tryz.sizeOf48
  v46 := Tryz.zeroValue48
  t51 := Tryz.underlying59
  a51 := Tryz.isAgg59
  z51 := Tryz.sizeOf59
  v51 := Tryz.zeroValue59
  t146 := Tryz.underlying74
  a146 := Tryz.isAgg74
  z146 := Tryz.sizeOf74
  v146 := Tryz.zeroValue74 }
open Go.RowKit Go.Lib in
theorem Tryz.bytealg_IndexRabinKarp (s sep : ByteArray) (h1 : 1 ≤ sep.size) (h2 : sep.size ≤ s.size) (hs : s.size < 4294967281) (w : World) :
    Calls Tryz.prog 104 #[.string s, .string sep] w fun e w' => e = .returned (.int .i64 (Lib.index s.data.toList sep.data.toList)) ∧ w' = w := Any.bytealg_IndexRabinKarp Tryz.lays267 s sep h1 h2 hs w
def Tryz.lays219_ren : Go.Shelf.Ren := ⟨fun | 219 => 67 | 217 => 101 | 225 => 102 | 224 => 103 | 267 => 104 | 266 => 136 | 314 => 137 | n => n, fun | 9 => 9 | 3 => 3 | 4 => 4 | 5 => 5 | 46 => 48 | 146 => 74 | 51 => 59 | n => n, fun | 1 => 2 | n => n⟩
theorem Tryz.lays219 : Go.Proofs.Lays.n219 Tryz.prog Tryz.lays219_ren := {
  mixed := by kernel_rfl
  f217 := Tryz.func101.trans (congrArg some (by kernel_rfl))
  f219 := Tryz.func67.trans (congrArg some (by kernel_rfl))
  f224 := Tryz.func103.trans (congrArg some (by kernel_rfl))
  f225 := Tryz.func102.trans (congrArg some (by kernel_rfl))
  f266 := Tryz.func136.trans (congrArg some (by kernel_rfl))
  f267 := Tryz.func104.trans (congrArg some (by kernel_rfl))
  f314 := Tryz.func137.trans (congrArg some (by kernel_rfl))
  t3 := Tryz.underlying3
  a3 := Tryz.isAgg3
  z3 := Tryz.sizeOf3
  v3 := Tryz.zeroValue3
  t4 := Tryz.underlying4
  a4 := Tryz.isAgg4
  z4 := Tryz.sizeOf4
  v4 := Tryz.zeroValue4
  t5 := Tryz.underlying5
  a5 := Tryz.isAgg5
  z5 := Tryz.sizeOf5
  v5 := Tryz.zeroValue5
  t9 := Tryz.underlying9
  a9 := Tryz.isAgg9
  z9 := Tryz.sizeOf9
  v9 := Tryz.zeroValue9
  t46 := Tryz.underlying48
  a46 := Tryz.isAgg48
  z46 := Tryz.sizeOf48
  v46 := Tryz.zeroValue48
  t51 := Tryz.underlying59
  a51 := Tryz.isAgg59
  z51 := Tryz.sizeOf59
  v51 := Tryz.zeroValue59
  t146 := Tryz.underlying74
  a146 := Tryz.isAgg74
  z146 := Tryz.sizeOf74
  v146 := Tryz.zeroValue74
  g1 := by kernel_rfl }
open Go.RowKit Go.Lib in
theorem Tryz.stringslite_Index_one (s : ByteArray) (c : UInt8) (w : World) :
    Calls Tryz.prog 67 #[.string s, .string ⟨#[c]⟩] w fun e w' => e = .returned (.int .i64 (Lib.indexByte s.data.toList c)) ∧ w' = w := Any.stringslite_Index_one Tryz.lays219 s c w
open Go.RowKit Go.Lib in
theorem Tryz.stringslite_Index (s sub : ByteArray) (m : Int) (w : World) (hs : s.size < 4294967281) (hm : w.cell? ⟨2, 0, none⟩ = some (.int .i64 m)) :
    Calls Tryz.prog 67 #[.string s, .string sub] w fun e w' => e = .returned (.int .i64 (Lib.index s.data.toList sub.data.toList)) ∧ w' = w := Any.stringslite_Index Tryz.lays219 s sub m w hs hm
def Tryz.lays143_ren : Go.Shelf.Ren := ⟨fun | 143 => 47 | 219 => 67 | 217 => 101 | 225 => 102 | 224 => 103 | 267 => 104 | 266 => 136 | 314 => 137 | n => n, fun | 9 => 9 | 3 => 3 | 4 => 4 | 5 => 5 | 46 => 48 | 146 => 74 | 51 => 59 | n => n, fun | 1 => 2 | n => n⟩
theorem Tryz.lays143 : Go.Proofs.Lays.n143 Tryz.prog Tryz.lays143_ren := {
  mixed := by kernel_rfl
  f143 := Tryz.func47.trans (congrArg some (by kernel_rfl))
  f217 := Tryz.func101.trans (congrArg some (by kernel_rfl))
  f219 := Tryz.func67.trans (congrArg some (by kernel_rfl))
  f224 := Tryz.func103.trans (congrArg some (by kernel_rfl))
  f225 := Tryz.func102.trans (congrArg some (by kernel_rfl))
  f266 := Tryz.func136.trans (congrArg some (by kernel_rfl))
  f267 := Tryz.func104.trans (congrArg some (by kernel_rfl))
  f314 := Tryz.func137.trans (congrArg some (by kernel_rfl))
  t3 := Tryz.underlying3
  a3 := Tryz.isAgg3
  z3 := Tryz.sizeOf3
  v3 := Tryz.zeroValue3
  t4 := Tryz.underlying4
  a4 := Tryz.isAgg4
  z4 := Tryz.sizeOf4
  v4 := Tryz.zeroValue4
  t5 := Tryz.underlying5
  a5 := Tryz.isAgg5
  z5 := Tryz.sizeOf5
  v5 := Tryz.zeroValue5
  t9 := Tryz.underlying9
  a9 := Tryz.isAgg9
  z9 := Tryz.sizeOf9
  v9 := Tryz.zeroValue9
  t46 := Tryz.underlying48
  a46 := Tryz.isAgg48
  z46 := Tryz.sizeOf48
  v46 := Tryz.zeroValue48
  t51 := Tryz.underlying59
  a51 := Tryz.isAgg59
  z51 := Tryz.sizeOf59
  v51 := Tryz.zeroValue59
  t146 := Tryz.underlying74
  a146 := Tryz.isAgg74
  z146 := Tryz.sizeOf74
  v146 := Tryz.zeroValue74
  g1 := by kernel_rfl }
open Go.RowKit Go.Lib in
theorem Tryz.strings_Index_one (s : ByteArray) (c : UInt8) (w : World) :
    Calls Tryz.prog 47 #[.string s, .string ⟨#[c]⟩] w fun e w' => e = .returned (.int .i64 (Lib.indexByte s.data.toList c)) ∧ w' = w := Any.strings_Index_one Tryz.lays143 s c w
open Go.RowKit Go.Lib in
theorem Tryz.strings_Index (s sub : ByteArray) (m : Int) (w : World) (hs : s.size < 4294967281) (hm : w.cell? ⟨2, 0, none⟩ = some (.int .i64 m)) :
    Calls Tryz.prog 47 #[.string s, .string sub] w fun e w' => e = .returned (.int .i64 (Lib.index s.data.toList sub.data.toList)) ∧ w' = w := Any.strings_Index Tryz.lays143 s sub m w hs hm
def Tryz.lays220_ren : Go.Shelf.Ren := ⟨fun | 220 => 43 | 219 => 67 | 217 => 101 | 225 => 102 | 224 => 103 | 267 => 104 | 266 => 136 | 314 => 137 | n => n, fun | 9 => 9 | 4 => 4 | 3 => 3 | 5 => 5 | 46 => 48 | 146 => 74 | 51 => 59 | n => n, fun | 1 => 2 | n => n⟩
theorem Tryz.lays220 : Go.Proofs.Lays.n220 Tryz.prog Tryz.lays220_ren := {
  mixed := by kernel_rfl
  f217 := Tryz.func101.trans (congrArg some (by kernel_rfl))
  f219 := Tryz.func67.trans (congrArg some (by kernel_rfl))
  f220 := Tryz.func43.trans (congrArg some (by kernel_rfl))
  f224 := Tryz.func103.trans (congrArg some (by kernel_rfl))
  f225 := Tryz.func102.trans (congrArg some (by kernel_rfl))
  f266 := Tryz.func136.trans (congrArg some (by kernel_rfl))
  f267 := Tryz.func104.trans (congrArg some (by kernel_rfl))
  f314 := Tryz.func137.trans (congrArg some (by kernel_rfl))
  t3 := Tryz.underlying3
  a3 := Tryz.isAgg3
  z3 := Tryz.sizeOf3
  v3 := Tryz.zeroValue3
  t4 := Tryz.underlying4
  a4 := Tryz.isAgg4
  z4 := Tryz.sizeOf4
  v4 := Tryz.zeroValue4
  t5 := Tryz.underlying5
  a5 := Tryz.isAgg5
  z5 := Tryz.sizeOf5
  v5 := Tryz.zeroValue5
  t9 := Tryz.underlying9
  a9 := Tryz.isAgg9
  z9 := Tryz.sizeOf9
  v9 := Tryz.zeroValue9
  t46 := Tryz.underlying48
  a46 := Tryz.isAgg48
  z46 := Tryz.sizeOf48
  v46 := Tryz.zeroValue48
  t51 := Tryz.underlying59
  a51 := Tryz.isAgg59
  z51 := Tryz.sizeOf59
  v51 := Tryz.zeroValue59
  t146 := Tryz.underlying74
  a146 := Tryz.isAgg74
  z146 := Tryz.sizeOf74
  v146 := Tryz.zeroValue74
  g1 := by kernel_rfl }
open Go.RowKit Go.Lib in
theorem Tryz.stringslite_Cut (s sep : ByteArray) (m : Int) (w : World) (hs : s.size < 4294967281) (hm : w.cell? ⟨2, 0, none⟩ = some (.int .i64 m)) :
    Calls Tryz.prog 43 #[.string s, .string sep] w fun e w' => e = .returned (.tuple #[.string ⟨(Lib.cut s.data.toList sep.data.toList).1.toArray⟩, .string ⟨(Lib.cut s.data.toList sep.data.toList).2.1.toArray⟩, .bool (Lib.cut s.data.toList sep.data.toList).2.2]) ∧ ∃ n, w' = w.drewN n := Any.stringslite_Cut Tryz.lays220 s sep m w hs hm
def Tryz.lays145_ren : Go.Shelf.Ren := ⟨fun | 145 => 22 | 220 => 43 | 219 => 67 | 217 => 101 | 225 => 102 | 224 => 103 | 267 => 104 | 266 => 136 | 314 => 137 | n => n, fun | 9 => 9 | 4 => 4 | 59 => 41 | 3 => 3 | 5 => 5 | 46 => 48 | 146 => 74 | 51 => 59 | n => n, fun | 1 => 2 | n => n⟩
theorem Tryz.lays145 : Go.Proofs.Lays.n145 Tryz.prog Tryz.lays145_ren := {
  mixed := by kernel_rfl
  f145 := Tryz.func22.trans (congrArg some (by kernel_rfl))
  f217 := Tryz.func101.trans (congrArg some (by kernel_rfl))
  f219 := Tryz.func67.trans (congrArg some (by kernel_rfl))
  f220 := Tryz.func43.trans (congrArg some (by kernel_rfl))
  f224 := Tryz.func103.trans (congrArg some (by kernel_rfl))
  f225 := Tryz.func102.trans (congrArg some (by kernel_rfl))
  f266 := Tryz.func136.trans (congrArg some (by kernel_rfl))
  f267 := Tryz.func104.trans (congrArg some (by kernel_rfl))
  f314 := Tryz.func137.trans (congrArg some (by kernel_rfl))
  t3 := Tryz.underlying3
  a3 := Tryz.isAgg3
  z3 := Tryz.sizeOf3
  v3 := Tryz.zeroValue3
  t4 := Tryz.underlying4
  a4 := Tryz.isAgg4
  z4 := Tryz.sizeOf4
  v4 := Tryz.zeroValue4
  t5 := Tryz.underlying5
  a5 := Tryz.isAgg5
  z5 := Tryz.sizeOf5
  v5 := Tryz.zeroValue5
  t9 := Tryz.underlying9
  a9 := Tryz.isAgg9
  z9 := Tryz.sizeOf9
  v9 := Tryz.zeroValue9
  t46 := Tryz.underlying48
  a46 := Tryz.isAgg48
  z46 := Tryz.sizeOf48
  v46 := Tryz.zeroValue48
  t51 := Tryz.underlying59
  a51 := Tryz.isAgg59
  z51 := Tryz.sizeOf59
  v51 := Tryz.zeroValue59
  t59 := Tryz.underlying41
  a59 := Tryz.isAgg41
  z59 := Tryz.sizeOf41
  v59 := Tryz.zeroValue41
  t146 := Tryz.underlying74
  a146 := Tryz.isAgg74
  z146 := Tryz.sizeOf74
  v146 := Tryz.zeroValue74
  g1 := by kernel_rfl }
open Go.RowKit Go.Lib in
theorem Tryz.strings_Cut (s sep : ByteArray) (m : Int) (w : World) (hs : s.size < 4294967281) (hm : w.cell? ⟨2, 0, none⟩ = some (.int .i64 m)) :
    Calls Tryz.prog 22 #[.string s, .string sep] w fun e w' => e = .returned (.tuple #[.string ⟨(Lib.cut s.data.toList sep.data.toList).1.toArray⟩, .string ⟨(Lib.cut s.data.toList sep.data.toList).2.1.toArray⟩, .bool (Lib.cut s.data.toList sep.data.toList).2.2]) ∧ ∃ n, w' = w.drewN n := Any.strings_Cut Tryz.lays145 s sep m w hs hm
def Tryz.lays138_ren : Go.Shelf.Ren := ⟨fun | 138 => 46 | 195 => 73 | 218 => 74 | 143 => 47 | 219 => 67 | 217 => 101 | 225 => 102 | 224 => 103 | 267 => 104 | 266 => 136 | 314 => 137 | n => n, fun | 9 => 9 | 3 => 3 | 4 => 4 | 5 => 5 | 0 => 0 | 46 => 48 | 146 => 74 | 51 => 59 | n => n, fun | 1 => 2 | n => n⟩
theorem Tryz.lays138 : Go.Proofs.Lays.n138 Tryz.prog Tryz.lays138_ren := {
  mixed := by kernel_rfl
  f138 := Tryz.func46.trans (congrArg some (by kernel_rfl))
  f143 := Tryz.func47.trans (congrArg some (by kernel_rfl))
  f195 := Tryz.func73.trans (congrArg some (by kernel_rfl))
  f217 := Tryz.func101.trans (congrArg some (by kernel_rfl))
  f218 := Tryz.func74.trans (congrArg some (by kernel_rfl))
  f219 := Tryz.func67.trans (congrArg some (by kernel_rfl))
  f224 := Tryz.func103.trans (congrArg some (by kernel_rfl))
  f225 := Tryz.func102.trans (congrArg some (by kernel_rfl))
  f266 := Tryz.func136.trans (congrArg some (by kernel_rfl))
  f267 := Tryz.func104.trans (congrArg some (by kernel_rfl))
  f314 := Tryz.func137.trans (congrArg some (by kernel_rfl))
  t0 := Tryz.underlying0
  a0 := Tryz.isAgg0
  z0 := Tryz.sizeOf0
  v0 := Tryz.zeroValue0
  t3 := Tryz.underlying3
  a3 := Tryz.isAgg3
  z3 := Tryz.sizeOf3
  v3 := Tryz.zeroValue3
  t4 := Tryz.underlying4
  a4 := Tryz.isAgg4
  z4 := Tryz.sizeOf4
  v4 := Tryz.zeroValue4
  t5 := Tryz.underlying5
  a5 := Tryz.isAgg5
  z5 := Tryz.sizeOf5
  v5 := Tryz.zeroValue5
  t9 := Tryz.underlying9
  a9 := Tryz.isAgg9
  z9 := Tryz.sizeOf9
  v9 := Tryz.zeroValue9
  t46 := Tryz.underlying48
  a46 := Tryz.isAgg48
  z46 := Tryz.sizeOf48
  v46 := Tryz.zeroValue48
  t51 := Tryz.underlying59
  a51 := Tryz.isAgg59
  z51 := Tryz.sizeOf59
  v51 := Tryz.zeroValue59
  t146 := Tryz.underlying74
  a146 := Tryz.isAgg74
  z146 := Tryz.sizeOf74
  v146 := Tryz.zeroValue74
  g1 := by kernel_rfl }
open Go.RowKit Go.Lib in
theorem Tryz.strings_Count_one (s : ByteArray) (c : UInt8) (w : World) :
    Calls Tryz.prog 46 #[.string s, .string ⟨#[c]⟩] w fun e w' => e = .returned (.int .i64 (Lib.countByte s.data.toList c)) ∧ w' = w := Any.strings_Count_one Tryz.lays138 s c w
open Go.RowKit Go.Lib in
theorem Tryz.strings_Count (s sub : ByteArray) (m : Int) (w : World) (hs : s.size < 4294967281) (hm : w.cell? ⟨2, 0, none⟩ = some (.int .i64 m)) (h2 : 2 ≤ sub.size) :
    Calls Tryz.prog 46 #[.string s, .string sub] w fun e w' => e = .returned (.int .i64 (Lib.countB s sub)) ∧ w' = w := Any.strings_Count Tryz.lays138 s sub m w hs hm h2
def Tryz.laysM219_ren : Go.Shelf.Ren := ⟨fun | 219 => 67 | 217 => 101 | 225 => 102 | 224 => 103 | 267 => 104 | 266 => 136 | 314 => 137 | n => n, fun | 9 => 9 | 3 => 3 | 4 => 4 | 5 => 5 | 46 => 48 | 146 => 74 | 51 => 59 | n => n, fun | 1 => 2 | n => n⟩
theorem Tryz.laysM219 : Go.Proofs.LaysM.n219 Tryz.prog Tryz.laysM219_ren := {
  mixed := by kernel_rfl
  f217 := Tryz.func101.trans (congrArg some (by kernel_rfl))
  f219 := Tryz.func67.trans (congrArg some (by kernel_rfl))
  f224 := Tryz.func103.trans (congrArg some (by kernel_rfl))
  f225 := Tryz.func102.trans (congrArg some (by kernel_rfl))
  f266 := Tryz.func136.trans (congrArg some (by kernel_rfl))
  f267 := Tryz.func104.trans (congrArg some (by kernel_rfl))
  f314 := Tryz.func137.trans (congrArg some (by kernel_rfl))
  t3 := Tryz.underlying3
  a3 := Tryz.isAgg3
  z3 := Tryz.sizeOf3
  v3 := Tryz.zeroValue3
  t4 := Tryz.underlying4
  a4 := Tryz.isAgg4
  z4 := Tryz.sizeOf4
  v4 := Tryz.zeroValue4
  t5 := Tryz.underlying5
  a5 := Tryz.isAgg5
  z5 := Tryz.sizeOf5
  v5 := Tryz.zeroValue5
  t9 := Tryz.underlying9
  a9 := Tryz.isAgg9
  z9 := Tryz.sizeOf9
  v9 := Tryz.zeroValue9
  t46 := Tryz.underlying48
  a46 := Tryz.isAgg48
  z46 := Tryz.sizeOf48
  v46 := Tryz.zeroValue48
  t51 := Tryz.underlying59
  a51 := Tryz.isAgg59
  z51 := Tryz.sizeOf59
  v51 := Tryz.zeroValue59
  t146 := Tryz.underlying74
  a146 := Tryz.isAgg74
  z146 := Tryz.sizeOf74
  v146 := Tryz.zeroValue74
  g1 := by kernel_rfl
  i3 := by kernel_rfl
  i4 := by kernel_rfl
  i5 := by kernel_rfl
  i9 := by kernel_rfl
  i46 := by kernel_rfl
  i51 := by kernel_rfl
  i146 := by kernel_rfl
  m1 := by kernel_rfl
  s1_3 := fun w h => Go.Proofs.cell_of_shapedOpen_int (zero := #[.int .i64 0]) (t := 3) h (of_decide_eq_true (by kernel_rfl)) (by kernel_rfl) rfl (by kernel_rfl) (by kernel_rfl) Tryz.underlying3 }
open Go.RowKit Go.Lib in
theorem Tryz.stringslite_Index_shaped (s sub : ByteArray) (w : World) (h : w.ShapedOpen Tryz.prog) (hs : s.size < 4294967281) :
    Calls Tryz.prog 67 #[.string s, .string sub] w fun e w' => e = .returned (.int .i64 (Lib.index s.data.toList sub.data.toList)) ∧ w' = w := Any.stringslite_Index_shaped Tryz.laysM219 s sub w h hs
def Tryz.laysM143_ren : Go.Shelf.Ren := ⟨fun | 143 => 47 | 219 => 67 | 217 => 101 | 225 => 102 | 224 => 103 | 267 => 104 | 266 => 136 | 314 => 137 | n => n, fun | 9 => 9 | 3 => 3 | 4 => 4 | 5 => 5 | 46 => 48 | 146 => 74 | 51 => 59 | n => n, fun | 1 => 2 | n => n⟩
theorem Tryz.laysM143 : Go.Proofs.LaysM.n143 Tryz.prog Tryz.laysM143_ren := {
  mixed := by kernel_rfl
  f143 := Tryz.func47.trans (congrArg some (by kernel_rfl))
  f217 := Tryz.func101.trans (congrArg some (by kernel_rfl))
  f219 := Tryz.func67.trans (congrArg some (by kernel_rfl))
  f224 := Tryz.func103.trans (congrArg some (by kernel_rfl))
  f225 := Tryz.func102.trans (congrArg some (by kernel_rfl))
  f266 := Tryz.func136.trans (congrArg some (by kernel_rfl))
  f267 := Tryz.func104.trans (congrArg some (by kernel_rfl))
  f314 := Tryz.func137.trans (congrArg some (by kernel_rfl))
  t3 := Tryz.underlying3
  a3 := Tryz.isAgg3
  z3 := Tryz.sizeOf3
  v3 := Tryz.zeroValue3
  t4 := Tryz.underlying4
  a4 := Tryz.isAgg4
  z4 := Tryz.sizeOf4
  v4 := Tryz.zeroValue4
  t5 := Tryz.underlying5
  a5 := Tryz.isAgg5
  z5 := Tryz.sizeOf5
  v5 := Tryz.zeroValue5
  t9 := Tryz.underlying9
  a9 := Tryz.isAgg9
  z9 := Tryz.sizeOf9
  v9 := Tryz.zeroValue9
  t46 := Tryz.underlying48
  a46 := Tryz.isAgg48
  z46 := Tryz.sizeOf48
  v46 := Tryz.zeroValue48
  t51 := Tryz.underlying59
  a51 := Tryz.isAgg59
  z51 := Tryz.sizeOf59
  v51 := Tryz.zeroValue59
  t146 := Tryz.underlying74
  a146 := Tryz.isAgg74
  z146 := Tryz.sizeOf74
  v146 := Tryz.zeroValue74
  g1 := by kernel_rfl
  i3 := by kernel_rfl
  i4 := by kernel_rfl
  i5 := by kernel_rfl
  i9 := by kernel_rfl
  i46 := by kernel_rfl
  i51 := by kernel_rfl
  i146 := by kernel_rfl
  m1 := by kernel_rfl
  s1_3 := fun w h => Go.Proofs.cell_of_shapedOpen_int (zero := #[.int .i64 0]) (t := 3) h (of_decide_eq_true (by kernel_rfl)) (by kernel_rfl) rfl (by kernel_rfl) (by kernel_rfl) Tryz.underlying3 }
open Go.RowKit Go.Lib in
theorem Tryz.strings_Index_shaped (s sub : ByteArray) (w : World) (h : w.ShapedOpen Tryz.prog) (hs : s.size < 4294967281) :
    Calls Tryz.prog 47 #[.string s, .string sub] w fun e w' => e = .returned (.int .i64 (Lib.index s.data.toList sub.data.toList)) ∧ w' = w := Any.strings_Index_shaped Tryz.laysM143 s sub w h hs
def Tryz.laysM220_ren : Go.Shelf.Ren := ⟨fun | 220 => 43 | 219 => 67 | 217 => 101 | 225 => 102 | 224 => 103 | 267 => 104 | 266 => 136 | 314 => 137 | n => n, fun | 9 => 9 | 4 => 4 | 3 => 3 | 5 => 5 | 46 => 48 | 146 => 74 | 51 => 59 | n => n, fun | 1 => 2 | n => n⟩
theorem Tryz.laysM220 : Go.Proofs.LaysM.n220 Tryz.prog Tryz.laysM220_ren := {
  mixed := by kernel_rfl
  f217 := Tryz.func101.trans (congrArg some (by kernel_rfl))
  f219 := Tryz.func67.trans (congrArg some (by kernel_rfl))
  f220 := Tryz.func43.trans (congrArg some (by kernel_rfl))
  f224 := Tryz.func103.trans (congrArg some (by kernel_rfl))
  f225 := Tryz.func102.trans (congrArg some (by kernel_rfl))
  f266 := Tryz.func136.trans (congrArg some (by kernel_rfl))
  f267 := Tryz.func104.trans (congrArg some (by kernel_rfl))
  f314 := Tryz.func137.trans (congrArg some (by kernel_rfl))
  t3 := Tryz.underlying3
  a3 := Tryz.isAgg3
  z3 := Tryz.sizeOf3
  v3 := Tryz.zeroValue3
  t4 := Tryz.underlying4
  a4 := Tryz.isAgg4
  z4 := Tryz.sizeOf4
  v4 := Tryz.zeroValue4
  t5 := Tryz.underlying5
  a5 := Tryz.isAgg5
  z5 := Tryz.sizeOf5
  v5 := Tryz.zeroValue5
  t9 := Tryz.underlying9
  a9 := Tryz.isAgg9
  z9 := Tryz.sizeOf9
  v9 := Tryz.zeroValue9
  t46 := Tryz.underlying48
  a46 := Tryz.isAgg48
  z46 := Tryz.sizeOf48
  v46 := Tryz.zeroValue48
  t51 := Tryz.underlying59
  a51 := Tryz.isAgg59
  z51 := Tryz.sizeOf59
  v51 := Tryz.zeroValue59
  t146 := Tryz.underlying74
  a146 := Tryz.isAgg74
  z146 := Tryz.sizeOf74
  v146 := Tryz.zeroValue74
  g1 := by kernel_rfl
  i3 := by kernel_rfl
  i4 := by kernel_rfl
  i5 := by kernel_rfl
  i9 := by kernel_rfl
  i46 := by kernel_rfl
  i51 := by kernel_rfl
  i146 := by kernel_rfl
  m1 := by kernel_rfl
  s1_3 := fun w h => Go.Proofs.cell_of_shapedOpen_int (zero := #[.int .i64 0]) (t := 3) h (of_decide_eq_true (by kernel_rfl)) (by kernel_rfl) rfl (by kernel_rfl) (by kernel_rfl) Tryz.underlying3 }
open Go.RowKit Go.Lib in
theorem Tryz.stringslite_Cut_shaped (s sep : ByteArray) (w : World) (h : w.ShapedOpen Tryz.prog) (hs : s.size < 4294967281) :
    Calls Tryz.prog 43 #[.string s, .string sep] w fun e w' => e = .returned (.tuple #[.string ⟨(Lib.cut s.data.toList sep.data.toList).1.toArray⟩, .string ⟨(Lib.cut s.data.toList sep.data.toList).2.1.toArray⟩, .bool (Lib.cut s.data.toList sep.data.toList).2.2]) ∧ ∃ n, w' = w.drewN n := Any.stringslite_Cut_shaped Tryz.laysM220 s sep w h hs
def Tryz.laysM145_ren : Go.Shelf.Ren := ⟨fun | 145 => 22 | 220 => 43 | 219 => 67 | 217 => 101 | 225 => 102 | 224 => 103 | 267 => 104 | 266 => 136 | 314 => 137 | n => n, fun | 9 => 9 | 4 => 4 | 59 => 41 | 3 => 3 | 5 => 5 | 46 => 48 | 146 => 74 | 51 => 59 | n => n, fun | 1 => 2 | n => n⟩
theorem Tryz.laysM145 : Go.Proofs.LaysM.n145 Tryz.prog Tryz.laysM145_ren := {
  mixed := by kernel_rfl
  f145 := Tryz.func22.trans (congrArg some (by kernel_rfl))
  f217 := Tryz.func101.trans (congrArg some (by kernel_rfl))
  f219 := Tryz.func67.trans (congrArg some (by kernel_rfl))
  f220 := Tryz.func43.trans (congrArg some (by kernel_rfl))
  f224 := Tryz.func103.trans (congrArg some (by kernel_rfl))
  f225 := Tryz.func102.trans (congrArg some (by kernel_rfl))
  f266 := Tryz.func136.trans (congrArg some (by kernel_rfl))
  f267 := Tryz.func104.trans (congrArg some (by kernel_rfl))
  f314 := Tryz.func137.trans (congrArg some (by kernel_rfl))
  t3 := Tryz.underlying3
  a3 := Tryz.isAgg3
  z3 := Tryz.sizeOf3
  v3 := Tryz.zeroValue3
  t4 := Tryz.underlying4
  a4 := Tryz.isAgg4
  z4 := Tryz.sizeOf4
  v4 := Tryz.zeroValue4
  t5 := Tryz.underlying5
  a5 := Tryz.isAgg5
  z5 := Tryz.sizeOf5
  v5 := Tryz.zeroValue5
  t9 := Tryz.underlying9
  a9 := Tryz.isAgg9
  z9 := Tryz.sizeOf9
  v9 := Tryz.zeroValue9
  t46 := Tryz.underlying48
  a46 := Tryz.isAgg48
  z46 := Tryz.sizeOf48
  v46 := Tryz.zeroValue48
  t51 := Tryz.underlying59
  a51 := Tryz.isAgg59
  z51 := Tryz.sizeOf59
  v51 := Tryz.zeroValue59
  t59 := Tryz.underlying41
  a59 := Tryz.isAgg41
  z59 := Tryz.sizeOf41
  v59 := Tryz.zeroValue41
  t146 := Tryz.underlying74
  a146 := Tryz.isAgg74
  z146 := Tryz.sizeOf74
  v146 := Tryz.zeroValue74
  g1 := by kernel_rfl
  i3 := by kernel_rfl
  i4 := by kernel_rfl
  i5 := by kernel_rfl
  i9 := by kernel_rfl
  i46 := by kernel_rfl
  i51 := by kernel_rfl
  i59 := by kernel_rfl
  i146 := by kernel_rfl
  m1 := by kernel_rfl
  s1_3 := fun w h => Go.Proofs.cell_of_shapedOpen_int (zero := #[.int .i64 0]) (t := 3) h (of_decide_eq_true (by kernel_rfl)) (by kernel_rfl) rfl (by kernel_rfl) (by kernel_rfl) Tryz.underlying3 }
open Go.RowKit Go.Lib in
theorem Tryz.strings_Cut_shaped (s sep : ByteArray) (w : World) (h : w.ShapedOpen Tryz.prog) (hs : s.size < 4294967281) :
    Calls Tryz.prog 22 #[.string s, .string sep] w fun e w' => e = .returned (.tuple #[.string ⟨(Lib.cut s.data.toList sep.data.toList).1.toArray⟩, .string ⟨(Lib.cut s.data.toList sep.data.toList).2.1.toArray⟩, .bool (Lib.cut s.data.toList sep.data.toList).2.2]) ∧ ∃ n, w' = w.drewN n := Any.strings_Cut_shaped Tryz.laysM145 s sep w h hs
def Tryz.laysM138_ren : Go.Shelf.Ren := ⟨fun | 138 => 46 | 195 => 73 | 218 => 74 | 143 => 47 | 219 => 67 | 217 => 101 | 225 => 102 | 224 => 103 | 267 => 104 | 266 => 136 | 314 => 137 | n => n, fun | 9 => 9 | 3 => 3 | 4 => 4 | 5 => 5 | 0 => 0 | 46 => 48 | 146 => 74 | 51 => 59 | n => n, fun | 1 => 2 | n => n⟩
theorem Tryz.laysM138 : Go.Proofs.LaysM.n138 Tryz.prog Tryz.laysM138_ren := {
  mixed := by kernel_rfl
  f138 := Tryz.func46.trans (congrArg some (by kernel_rfl))
  f143 := Tryz.func47.trans (congrArg some (by kernel_rfl))
  f195 := Tryz.func73.trans (congrArg some (by kernel_rfl))
  f217 := Tryz.func101.trans (congrArg some (by kernel_rfl))
  f218 := Tryz.func74.trans (congrArg some (by kernel_rfl))
  f219 := Tryz.func67.trans (congrArg some (by kernel_rfl))
  f224 := Tryz.func103.trans (congrArg some (by kernel_rfl))
  f225 := Tryz.func102.trans (congrArg some (by kernel_rfl))
  f266 := Tryz.func136.trans (congrArg some (by kernel_rfl))
  f267 := Tryz.func104.trans (congrArg some (by kernel_rfl))
  f314 := Tryz.func137.trans (congrArg some (by kernel_rfl))
  t0 := Tryz.underlying0
  a0 := Tryz.isAgg0
  z0 := Tryz.sizeOf0
  v0 := Tryz.zeroValue0
  t3 := Tryz.underlying3
  a3 := Tryz.isAgg3
  z3 := Tryz.sizeOf3
  v3 := Tryz.zeroValue3
  t4 := Tryz.underlying4
  a4 := Tryz.isAgg4
  z4 := Tryz.sizeOf4
  v4 := Tryz.zeroValue4
  t5 := Tryz.underlying5
  a5 := Tryz.isAgg5
  z5 := Tryz.sizeOf5
  v5 := Tryz.zeroValue5
  t9 := Tryz.underlying9
  a9 := Tryz.isAgg9
  z9 := Tryz.sizeOf9
  v9 := Tryz.zeroValue9
  t46 := Tryz.underlying48
  a46 := Tryz.isAgg48
  z46 := Tryz.sizeOf48
  v46 := Tryz.zeroValue48
  t51 := Tryz.underlying59
  a51 := Tryz.isAgg59
  z51 := Tryz.sizeOf59
  v51 := Tryz.zeroValue59
  t146 := Tryz.underlying74
  a146 := Tryz.isAgg74
  z146 := Tryz.sizeOf74
  v146 := Tryz.zeroValue74
  g1 := by kernel_rfl
  i0 := by kernel_rfl
  i3 := by kernel_rfl
  i4 := by kernel_rfl
  i5 := by kernel_rfl
  i9 := by kernel_rfl
  i46 := by kernel_rfl
  i51 := by kernel_rfl
  i146 := by kernel_rfl
  m1 := by kernel_rfl
  s1_3 := fun w h => Go.Proofs.cell_of_shapedOpen_int (zero := #[.int .i64 0]) (t := 3) h (of_decide_eq_true (by kernel_rfl)) (by kernel_rfl) rfl (by kernel_rfl) (by kernel_rfl) Tryz.underlying3 }
open Go.RowKit Go.Lib in
theorem Tryz.strings_Count_shaped (s sub : ByteArray) (w : World) (h : w.ShapedOpen Tryz.prog) (hs : s.size < 4294967281) (h2 : 2 ≤ sub.size) :
    Calls Tryz.prog 46 #[.string s, .string sub] w fun e w' => e = .returned (.int .i64 (Lib.countB s sub)) ∧ w' = w := Any.strings_Count_shaped Tryz.laysM138 s sub w h hs h2
def Tryz.lays206_ren : Go.Shelf.Ren := ⟨fun | 206 => 51 | n => n, fun | 9 => 9 | 4 => 4 | 3 => 3 | n => n, fun | n => n⟩
theorem Tryz.lays206 : Go.Proofs.Lays.n206 Tryz.prog Tryz.lays206_ren := {
  mixed := by kernel_rfl
  f206 := Tryz.func51.trans (congrArg some (by kernel_rfl))
  t3 := Tryz.underlying3
  a3 := Tryz.isAgg3
  z3 := Tryz.sizeOf3
  v3 := Tryz.zeroValue3
  t4 := Tryz.underlying4
  a4 := Tryz.isAgg4
  z4 := Tryz.sizeOf4
  v4 := Tryz.zeroValue4
  t9 := Tryz.underlying9
  a9 := Tryz.isAgg9
  z9 := Tryz.sizeOf9
  v9 := Tryz.zeroValue9 }
open Go.RowKit Go.Lib in
theorem Tryz.stringslite_HasPrefix (s p : ByteArray) (w : World) :
    Calls Tryz.prog 51 #[.string s, .string p] w fun e w' => e = .returned (.bool (Lib.hasPrefix s.data.toList p.data.toList)) ∧ w' = w := Any.stringslite_HasPrefix Tryz.lays206 s p w
def Tryz.lays99_ren : Go.Shelf.Ren := ⟨fun | 99 => 26 | 206 => 51 | n => n, fun | 9 => 9 | 4 => 4 | 3 => 3 | n => n, fun | n => n⟩
theorem Tryz.lays99 : Go.Proofs.Lays.n99 Tryz.prog Tryz.lays99_ren := {
  mixed := by kernel_rfl
  f99 := Tryz.func26.trans (congrArg some (by kernel_rfl))
  f206 := Tryz.func51.trans (congrArg some (by kernel_rfl))
  t3 := Tryz.underlying3
  a3 := Tryz.isAgg3
  z3 := Tryz.sizeOf3
  v3 := Tryz.zeroValue3
  t4 := Tryz.underlying4
  a4 := Tryz.isAgg4
  z4 := Tryz.sizeOf4
  v4 := Tryz.zeroValue4
  t9 := Tryz.underlying9
  a9 := Tryz.isAgg9
  z9 := Tryz.sizeOf9
  v9 := Tryz.zeroValue9 }
open Go.RowKit Go.Lib in
theorem Tryz.strings_HasPrefix (s p : ByteArray) (w : World) :
    Calls Tryz.prog 26 #[.string s, .string p] w fun e w' => e = .returned (.bool (Lib.hasPrefix s.data.toList p.data.toList)) ∧ w' = w := Any.strings_HasPrefix Tryz.lays99 s p w
open Go.RowKit Go.Lib in
theorem Tryz.strings_Count_any (s sep : ByteArray) (m : Int) (w : World) (hs : s.size < 4294967281) (hm : w.cell? ⟨2, 0, none⟩ = some (.int .i64 m)) (h1 : 1 ≤ sep.size) :
    Calls Tryz.prog 46 #[.string s, .string sep] w fun e w' => e = .returned (.int .i64 (Lib.countB s sep)) ∧ w' = w := Any.strings_Count_any Tryz.lays138 s sep m w hs hm h1
def Tryz.lays154_ren : Go.Shelf.Ren := ⟨fun | 154 => 24 | 138 => 46 | 165 => 27 | 143 => 47 | 166 => 28 | 197 => 48 | 169 => 30 | 195 => 73 | 218 => 74 | 240 => 52 | 241 => 53 | 219 => 67 | 260 => 75 | 276 => 76 | 277 => 77 | 217 => 101 | 225 => 102 | 224 => 103 | 267 => 104 | 266 => 136 | 314 => 137 | n => n, fun | 9 => 9 | 3 => 3 | 4 => 4 | 72 => 55 | 0 => 0 | 76 => 45 | 105 => 72 | 21 => 21 | 5 => 5 | 70 => 52 | 20 => 20 | 37 => 53 | 75 => 44 | 127 => 78 | 164 => 97 | 46 => 48 | 119 => 126 | 139 => 129 | 138 => 128 | 146 => 74 | 51 => 59 | 80 => 58 | n => n, fun | 1 => 2 | 3 => 5 | 4 => 6 | n => n⟩
theorem Tryz.lays154 : Go.Proofs.Lays.n154 Tryz.prog Tryz.lays154_ren := {
  mixed := by kernel_rfl
  f138 := Tryz.func46.trans (congrArg some (by kernel_rfl))
  f143 := Tryz.func47.trans (congrArg some (by kernel_rfl))
  f154 := Tryz.func24.trans (congrArg some (by kernel_rfl))
  f165 := Tryz.func27.trans (congrArg some (by kernel_rfl))
  f166 := Tryz.func28.trans (congrArg some (by kernel_rfl))
  f169 := Tryz.func30.trans (congrArg some (by kernel_rfl))
  f195 := Tryz.func73.trans (congrArg some (by kernel_rfl))
  f197 := Tryz.func48.trans (congrArg some (by kernel_rfl))
  f217 := Tryz.func101.trans (congrArg some (by kernel_rfl))
  f218 := Tryz.func74.trans (congrArg some (by kernel_rfl))
  f219 := Tryz.func67.trans (congrArg some (by kernel_rfl))
  f224 := Tryz.func103.trans (congrArg some (by kernel_rfl))
  f225 := Tryz.func102.trans (congrArg some (by kernel_rfl))
  f240 := Tryz.func52.trans (congrArg some (by kernel_rfl))
  f241 := Tryz.func53.trans (congrArg some (by kernel_rfl))
  f260 := Tryz.func75.trans (congrArg some (by kernel_rfl))
  f266 := Tryz.func136.trans (congrArg some (by kernel_rfl))
  f267 := Tryz.func104.trans (congrArg some (by kernel_rfl))
  f276 := Tryz.func76.trans (congrArg some (by kernel_rfl))
  f277 := Tryz.func77.trans (congrArg some (by kernel_rfl))
  f314 := Tryz.func137.trans (congrArg some (by kernel_rfl))
  t0 := Tryz.underlying0
  a0 := Tryz.isAgg0
  z0 := Tryz.sizeOf0
  v0 := Tryz.zeroValue0
  t3 := Tryz.underlying3
  a3 := Tryz.isAgg3
  z3 := Tryz.sizeOf3
  v3 := Tryz.zeroValue3
  t4 := Tryz.underlying4
  a4 := Tryz.isAgg4
  z4 := Tryz.sizeOf4
  v4 := Tryz.zeroValue4
  t5 := Tryz.underlying5
  a5 := Tryz.isAgg5
  z5 := Tryz.sizeOf5
  v5 := Tryz.zeroValue5
  t9 := Tryz.underlying9
  a9 := Tryz.isAgg9
  z9 := Tryz.sizeOf9
  v9 := Tryz.zeroValue9
  t20 := Tryz.underlying20
  a20 := Tryz.isAgg20
  z20 := Tryz.sizeOf20
  v20 := Tryz.zeroValue20
  t21 := Tryz.underlying21
  a21 := Tryz.isAgg21
  z21 := Tryz.sizeOf21
  v21 := Tryz.zeroValue21
  t37 := Tryz.underlying53
  a37 := Tryz.isAgg53
  z37 := Tryz.sizeOf53
  v37 := Tryz.zeroValue53
  t46 := Tryz.underlying48
  a46 := Tryz.isAgg48
  z46 := Tryz.sizeOf48
  v46 := Tryz.zeroValue48
  t51 := Tryz.underlying59
  a51 := Tryz.isAgg59
  z51 := Tryz.sizeOf59
  v51 := Tryz.zeroValue59
  t70 := Tryz.underlying52
  a70 := Tryz.isAgg52
  z70 := Tryz.sizeOf52
  v70 := Tryz.zeroValue52
  t72 := Tryz.underlying55
  a72 := Tryz.isAgg55
  z72 := Tryz.sizeOf55
  v72 := Tryz.zeroValue55
  t75 := Tryz.underlying44
  a75 := Tryz.isAgg44
  z75 := Tryz.sizeOf44
  v75 := Tryz.zeroValue44
  t76 := Tryz.underlying45
  a76 := Tryz.isAgg45
  z76 := Tryz.sizeOf45
  v76 := Tryz.zeroValue45
  t105 := Tryz.underlying72
  a105 := Tryz.isAgg72
  z105 := Tryz.sizeOf72
  v105 := Tryz.zeroValue72
  t119 := Tryz.underlying126
  a119 := Tryz.isAgg126
  z119 := Tryz.sizeOf126
  t127 := Tryz.underlying78
  a127 := Tryz.isAgg78
  z127 := Tryz.sizeOf78
  v127 := Tryz.zeroValue78
  t138 := Tryz.underlying128
  a138 := Tryz.isAgg128
  z138 := Tryz.sizeOf128
  v138 := Tryz.zeroValue128
  t139 := Tryz.underlying129
  a139 := Tryz.isAgg129
  z139 := Tryz.sizeOf129
  v139 := Tryz.zeroValue129
  t146 := Tryz.underlying74
  a146 := Tryz.isAgg74
  z146 := Tryz.sizeOf74
  v146 := Tryz.zeroValue74
  t164 := Tryz.underlying97
  a164 := Tryz.isAgg97
  z164 := Tryz.sizeOf97
  v164 := Tryz.zeroValue97
  g1 := by kernel_rfl
  g3 := by kernel_rfl
  g4 := by kernel_rfl }
theorem Tryz.Builder_Extra_154 : Builder.Extra Tryz.prog Tryz.lays154_ren := {
  sizeBuilder := by kernel_rfl
  liesBuilder := by kernel_rfl
  t5 := Tryz.underlying5
  a5 := Tryz.isAgg5
  z5 := Tryz.sizeOf5
  v5 := Tryz.zeroValue5
  infoByte := by kernel_rfl
  cellsByte := by kernel_rfl
  sizeByte := by kernel_rfl
  neB5 := by decide }
open Go.RowKit Go.Lib in
theorem Tryz.strings_Replace_some (s old new : ByteArray) (n : Int) (m : Int) (w : World) (hs : s.size < 4294967281) (hm : w.cell? ⟨2, 0, none⟩ = some (.int .i64 m)) (h1 : 1 ≤ old.size) (hne : old ≠ new) (hn0 : n ≠ 0) (hc0 : Lib.countB s old ≠ 0) (hlen : s.size + Lib.countB s old * new.size ≤ 140737488355328) :
    Calls Tryz.prog 24 #[.string s, .string old, .string new, .int .i64 n] w fun e w' =>
      e = .returned (.string ⟨(Lib.replaceK old.data.toList new.data.toList (Lib.replaceNum s.data.toList old.data.toList n) s.data.toList).toArray⟩) ∧ Below w.heap.size w w' := Any.strings_Replace_some Tryz.lays154 Tryz.Builder_Extra_154 s old new n m w hs hm h1 hne hn0 hc0 hlen
open Go.RowKit Go.Lib in
theorem Tryz.strings_Replace_none (s old new : ByteArray) (n : Int) (w : World) (h : old = new ∨ n = 0) :
    Calls Tryz.prog 24 #[.string s, .string old, .string new, .int .i64 n] w fun e w' => e = .returned (.string s) ∧ w' = w := Any.strings_Replace_none Tryz.lays154 s old new n w h
open Go.RowKit Go.Lib in
theorem Tryz.strings_Replace_absent (s old new : ByteArray) (n : Int) (m : Int) (w : World) (hs : s.size < 4294967281) (hm : w.cell? ⟨2, 0, none⟩ = some (.int .i64 m)) (h1 : 1 ≤ old.size) (hne : old ≠ new) (hn0 : n ≠ 0) (hc0 : Lib.countB s old = 0) :
    Calls Tryz.prog 24 #[.string s, .string old, .string new, .int .i64 n] w fun e w' => e = .returned (.string s) ∧ w' = w := Any.strings_Replace_absent Tryz.lays154 s old new n m w hs hm h1 hne hn0 hc0
open Go.RowKit Go.Lib in
theorem Tryz.strings_Replace (s old new : ByteArray) (n : Int) (m : Int) (w : World) (hs : s.size < 4294967281) (hm : w.cell? ⟨2, 0, none⟩ = some (.int .i64 m)) (h1 : 1 ≤ old.size) (hlen : s.size + Lib.countB s old * new.size ≤ 140737488355328) :
    Calls Tryz.prog 24 #[.string s, .string old, .string new, .int .i64 n] w fun e w' =>
      e = .returned (.string ⟨(Lib.replace s.data.toList old.data.toList new.data.toList n).toArray⟩) ∧ Below w.heap.size w w' := Any.strings_Replace Tryz.lays154 Tryz.Builder_Extra_154 s old new n m w hs hm h1 hlen
def Tryz.laysM154_ren : Go.Shelf.Ren := ⟨fun | 154 => 24 | 138 => 46 | 165 => 27 | 143 => 47 | 166 => 28 | 197 => 48 | 169 => 30 | 195 => 73 | 218 => 74 | 240 => 52 | 241 => 53 | 219 => 67 | 260 => 75 | 276 => 76 | 277 => 77 | 217 => 101 | 225 => 102 | 224 => 103 | 267 => 104 | 266 => 136 | 314 => 137 | n => n, fun | 9 => 9 | 3 => 3 | 4 => 4 | 72 => 55 | 0 => 0 | 76 => 45 | 105 => 72 | 21 => 21 | 5 => 5 | 70 => 52 | 20 => 20 | 37 => 53 | 75 => 44 | 127 => 78 | 164 => 97 | 46 => 48 | 119 => 126 | 139 => 129 | 138 => 128 | 146 => 74 | 51 => 59 | 80 => 58 | n => n, fun | 1 => 2 | 3 => 5 | 4 => 6 | n => n⟩
theorem Tryz.laysM154 : Go.Proofs.LaysM.n154 Tryz.prog Tryz.laysM154_ren := {
  mixed := by kernel_rfl
  f138 := Tryz.func46.trans (congrArg some (by kernel_rfl))
  f143 := Tryz.func47.trans (congrArg some (by kernel_rfl))
  f154 := Tryz.func24.trans (congrArg some (by kernel_rfl))
  f165 := Tryz.func27.trans (congrArg some (by kernel_rfl))
  f166 := Tryz.func28.trans (congrArg some (by kernel_rfl))
  f169 := Tryz.func30.trans (congrArg some (by kernel_rfl))
  f195 := Tryz.func73.trans (congrArg some (by kernel_rfl))
  f197 := Tryz.func48.trans (congrArg some (by kernel_rfl))
  f217 := Tryz.func101.trans (congrArg some (by kernel_rfl))
  f218 := Tryz.func74.trans (congrArg some (by kernel_rfl))
  f219 := Tryz.func67.trans (congrArg some (by kernel_rfl))
  f224 := Tryz.func103.trans (congrArg some (by kernel_rfl))
  f225 := Tryz.func102.trans (congrArg some (by kernel_rfl))
  f240 := Tryz.func52.trans (congrArg some (by kernel_rfl))
  f241 := Tryz.func53.trans (congrArg some (by kernel_rfl))
  f260 := Tryz.func75.trans (congrArg some (by kernel_rfl))
  f266 := Tryz.func136.trans (congrArg some (by kernel_rfl))
  f267 := Tryz.func104.trans (congrArg some (by kernel_rfl))
  f276 := Tryz.func76.trans (congrArg some (by kernel_rfl))
  f277 := Tryz.func77.trans (congrArg some (by kernel_rfl))
  f314 := Tryz.func137.trans (congrArg some (by kernel_rfl))
  t0 := Tryz.underlying0
  a0 := Tryz.isAgg0
  z0 := Tryz.sizeOf0
  v0 := Tryz.zeroValue0
  t3 := Tryz.underlying3
  a3 := Tryz.isAgg3
  z3 := Tryz.sizeOf3
  v3 := Tryz.zeroValue3
  t4 := Tryz.underlying4
  a4 := Tryz.isAgg4
  z4 := Tryz.sizeOf4
  v4 := Tryz.zeroValue4
  t5 := Tryz.underlying5
  a5 := Tryz.isAgg5
  z5 := Tryz.sizeOf5
  v5 := Tryz.zeroValue5
  t9 := Tryz.underlying9
  a9 := Tryz.isAgg9
  z9 := Tryz.sizeOf9
  v9 := Tryz.zeroValue9
  t20 := Tryz.underlying20
  a20 := Tryz.isAgg20
  z20 := Tryz.sizeOf20
  v20 := Tryz.zeroValue20
  t21 := Tryz.underlying21
  a21 := Tryz.isAgg21
  z21 := Tryz.sizeOf21
  v21 := Tryz.zeroValue21
  t37 := Tryz.underlying53
  a37 := Tryz.isAgg53
  z37 := Tryz.sizeOf53
  v37 := Tryz.zeroValue53
  t46 := Tryz.underlying48
  a46 := Tryz.isAgg48
  z46 := Tryz.sizeOf48
  v46 := Tryz.zeroValue48
  t51 := Tryz.underlying59
  a51 := Tryz.isAgg59
  z51 := Tryz.sizeOf59
  v51 := Tryz.zeroValue59
  t70 := Tryz.underlying52
  a70 := Tryz.isAgg52
  z70 := Tryz.sizeOf52
  v70 := Tryz.zeroValue52
  t72 := Tryz.underlying55
  a72 := Tryz.isAgg55
  z72 := Tryz.sizeOf55
  v72 := Tryz.zeroValue55
  t75 := Tryz.underlying44
  a75 := Tryz.isAgg44
  z75 := Tryz.sizeOf44
  v75 := Tryz.zeroValue44
  t76 := Tryz.underlying45
  a76 := Tryz.isAgg45
  z76 := Tryz.sizeOf45
  v76 := Tryz.zeroValue45
  t105 := Tryz.underlying72
  a105 := Tryz.isAgg72
  z105 := Tryz.sizeOf72
  v105 := Tryz.zeroValue72
  t119 := Tryz.underlying126
  a119 := Tryz.isAgg126
  z119 := Tryz.sizeOf126
  t127 := Tryz.underlying78
  a127 := Tryz.isAgg78
  z127 := Tryz.sizeOf78
  v127 := Tryz.zeroValue78
  t138 := Tryz.underlying128
  a138 := Tryz.isAgg128
  z138 := Tryz.sizeOf128
  v138 := Tryz.zeroValue128
  t139 := Tryz.underlying129
  a139 := Tryz.isAgg129
  z139 := Tryz.sizeOf129
  v139 := Tryz.zeroValue129
  t146 := Tryz.underlying74
  a146 := Tryz.isAgg74
  z146 := Tryz.sizeOf74
  v146 := Tryz.zeroValue74
  t164 := Tryz.underlying97
  a164 := Tryz.isAgg97
  z164 := Tryz.sizeOf97
  v164 := Tryz.zeroValue97
  g1 := by kernel_rfl
  g3 := by kernel_rfl
  g4 := by kernel_rfl
  t80 := Tryz.underlying58
  a80 := Tryz.isAgg58
  z80 := Tryz.sizeOf58
  v80 := Tryz.zeroValue58
  i0 := by kernel_rfl
  i3 := by kernel_rfl
  i4 := by kernel_rfl
  i5 := by kernel_rfl
  i9 := by kernel_rfl
  i20 := by kernel_rfl
  i21 := by kernel_rfl
  i37 := by kernel_rfl
  i46 := by kernel_rfl
  i51 := by kernel_rfl
  i70 := by kernel_rfl
  i72 := by kernel_rfl
  i75 := by kernel_rfl
  i76 := by kernel_rfl
  i80 := by kernel_rfl
  i105 := by kernel_rfl
  i127 := by kernel_rfl
  i138 := by kernel_rfl
  i139 := by kernel_rfl
  i146 := by kernel_rfl
  i164 := by kernel_rfl
  m1 := by kernel_rfl
  s1_3 := fun w h => Go.Proofs.cell_of_shapedOpen_int (zero := #[.int .i64 0]) (t := 3) h (of_decide_eq_true (by kernel_rfl)) (by kernel_rfl) rfl (by kernel_rfl) (by kernel_rfl) Tryz.underlying3
  m3 := by kernel_rfl
  m4 := by kernel_rfl }
theorem Tryz.Builder_Extra_M154 : Builder.Extra Tryz.prog Tryz.laysM154_ren := {
  sizeBuilder := by kernel_rfl
  liesBuilder := by kernel_rfl
  t5 := Tryz.underlying5
  a5 := Tryz.isAgg5
  z5 := Tryz.sizeOf5
  v5 := Tryz.zeroValue5
  infoByte := by kernel_rfl
  cellsByte := by kernel_rfl
  sizeByte := by kernel_rfl
  neB5 := by decide }
open Go.RowKit Go.Lib in
theorem Tryz.strings_Replace_shaped (s old new : ByteArray) (n : Int) (w : World) (h : w.ShapedOpen Tryz.prog) (hs : s.size < 4294967281) (h1 : 1 ≤ old.size) (hlen : s.size + Lib.countB s old * new.size ≤ 140737488355328) :
    Calls Tryz.prog 24 #[.string s, .string old, .string new, .int .i64 n] w fun e w' =>
      e = .returned (.string ⟨(Lib.replace s.data.toList old.data.toList new.data.toList n).toArray⟩) ∧ Below w.heap.size w w' := Any.strings_Replace_shaped Tryz.laysM154 Tryz.Builder_Extra_M154 s old new n w h hs h1 hlen
def Tryz.lays197_ren : Go.Shelf.Ren := ⟨fun | 197 => 48 | 260 => 75 | n => n, fun | 9 => 9 | 21 => 21 | 3 => 3 | 4 => 4 | 5 => 5 | 105 => 72 | 119 => 126 | 0 => 0 | 46 => 48 | 139 => 129 | 138 => 128 | n => n, fun | 3 => 5 | 4 => 6 | n => n⟩
theorem Tryz.lays197 : Go.Proofs.Lays.n197 Tryz.prog Tryz.lays197_ren := {
  mixed := by kernel_rfl
  f197 := Tryz.func48.trans (congrArg some (by kernel_rfl))
  f260 := Tryz.func75.trans (congrArg some (by kernel_rfl))
  t0 := Tryz.underlying0
  a0 := Tryz.isAgg0
  z0 := Tryz.sizeOf0
  v0 := Tryz.zeroValue0
  t3 := Tryz.underlying3
  a3 := Tryz.isAgg3
  z3 := Tryz.sizeOf3
  v3 := Tryz.zeroValue3
  t4 := Tryz.underlying4
  a4 := Tryz.isAgg4
  z4 := Tryz.sizeOf4
  v4 := Tryz.zeroValue4
  t5 := Tryz.underlying5
  a5 := Tryz.isAgg5
  z5 := Tryz.sizeOf5
  v5 := Tryz.zeroValue5
  t9 := Tryz.underlying9
  a9 := Tryz.isAgg9
  z9 := Tryz.sizeOf9
  v9 := Tryz.zeroValue9
  t21 := Tryz.underlying21
  a21 := Tryz.isAgg21
  z21 := Tryz.sizeOf21
  v21 := Tryz.zeroValue21
  t46 := Tryz.underlying48
  a46 := Tryz.isAgg48
  z46 := Tryz.sizeOf48
  v46 := Tryz.zeroValue48
  t105 := Tryz.underlying72
  a105 := Tryz.isAgg72
  z105 := Tryz.sizeOf72
  v105 := Tryz.zeroValue72
  t119 := Tryz.underlying126
  a119 := Tryz.isAgg126
  z119 := Tryz.sizeOf126
  t138 := Tryz.underlying128
  a138 := Tryz.isAgg128
  z138 := Tryz.sizeOf128
  v138 := Tryz.zeroValue128
  t139 := Tryz.underlying129
  a139 := Tryz.isAgg129
  z139 := Tryz.sizeOf129
  v139 := Tryz.zeroValue129
  g3 := by kernel_rfl
  g4 := by kernel_rfl }
open Go.RowKit Go.Lib in
theorem Tryz.utf8_DecodeRuneInString_ascii (s : ByteArray) (x : UInt8) (w : World) (h0 : s.data.toList[0]? = some x) (hx : x.toNat < 128) :
    Calls Tryz.prog 48 #[.string s] w fun e w' => e = .returned (.tuple #[.int .i32 x.toNat, .int .i64 1]) ∧ w' = w := Any.utf8_DecodeRuneInString_ascii Tryz.lays197 s x w h0 hx
open Go.RowKit Go.Lib in
theorem Tryz.utf8_RuneCountInString_ascii (s : ByteArray) (w : World) (hs : s.size < 4294967281) (hascii : ∀ (j : Nat) b, s.data.toList[j]? = some b → b.toNat < 128) :
    Calls Tryz.prog 73 #[.string s] w fun e w' => e = .returned (.int .i64 s.size) ∧ w' = w.iter s s.size := Any.utf8_RuneCountInString_ascii Tryz.lays195 s w hs hascii
def Tryz.lays264_ren : Go.Shelf.Ren := ⟨fun | 264 => 50 | n => n, fun | 53 => 22 | 46 => 48 | n => n, fun | n => n⟩
theorem Tryz.lays264 : Go.Proofs.Lays.n264 Tryz.prog Tryz.lays264_ren := {
  mixed := by kernel_rfl
  f264 := Tryz.func50.trans (congrArg some (by kernel_rfl))
  t46 := Tryz.underlying48
  a46 := Tryz.isAgg48
  z46 := Tryz.sizeOf48
  v46 := Tryz.zeroValue48
  t53 := Tryz.underlying22
  a53 := Tryz.isAgg22
  z53 := Tryz.sizeOf22
  v53 := Tryz.zeroValue22 }
open Go.RowKit Go.Lib in
theorem Tryz.bits_Mul64 (x y : Nat) (hx : x < 18446744073709551616) (hy : y < 18446744073709551616) (w : World) :
    Calls Tryz.prog 50 #[.int .u64 x, .int .u64 y] w fun e w' => e = .returned (.tuple #[.int .u64 ((x * y / 18446744073709551616 : Nat) : Int), .int .u64 ((x * y % 18446744073709551616 : Nat) : Int)]) ∧ w' = w := Any.bits_Mul64 Tryz.lays264 x y hx hy w
def Tryz.lays212_ren : Go.Shelf.Ren := ⟨fun | 212 => 25 | 263 => 49 | 264 => 50 | n => n, fun | 46 => 48 | 51 => 59 | 146 => 74 | 53 => 22 | 148 => 76 | n => n, fun | n => n⟩
theorem Tryz.lays212 : Go.Proofs.Lays.n212 Tryz.prog Tryz.lays212_ren := {
  mixed := by kernel_rfl
  f212 := Tryz.func25.trans (congrArg some (by kernel_rfl))
  f263 := Tryz.func49.trans (congrArg some (by kernel_rfl))
  f264 := Tryz.func50.trans (congrArg some (by kernel_rfl))
  t46 := Tryz.underlying48
  a46 := Tryz.isAgg48
  z46 := Tryz.sizeOf48
  v46 := Tryz.zeroValue48
  t51 := Tryz.underlying59
  a51 := Tryz.isAgg59
  z51 := Tryz.sizeOf59
  v51 := Tryz.zeroValue59
  t53 := Tryz.underlying22
  a53 := Tryz.isAgg22
  z53 := Tryz.sizeOf22
  v53 := Tryz.zeroValue22
  t146 := Tryz.underlying74
  a146 := Tryz.isAgg74
  z146 := Tryz.sizeOf74
  v146 := Tryz.zeroValue74
  t148 := Tryz.underlying76
  a148 := Tryz.isAgg76
  z148 := Tryz.sizeOf76
  v148 := Tryz.zeroValue76 }
open Go.RowKit Go.Lib in
theorem Tryz.bits_Mul (x y : Nat) (hx : x < 18446744073709551616) (hy : y < 18446744073709551616) (w : World) :
    Calls Tryz.prog 25 #[.int .u64 x, .int .u64 y] w fun e w' => e = .returned (.tuple #[.int .u64 ((x * y / 18446744073709551616 : Nat) : Int), .int .u64 ((x * y % 18446744073709551616 : Nat) : Int)]) ∧ w' = w := Any.bits_Mul Tryz.lays212 x y hx hy w
def Tryz.lays105_ren : Go.Shelf.Ren := ⟨fun | 105 => 9 | 212 => 25 | 99 => 26 | 165 => 27 | 166 => 28 | 170 => 29 | 169 => 30 | 263 => 49 | 264 => 50 | 206 => 51 | 240 => 52 | 241 => 53 | 276 => 76 | 277 => 77 | n => n, fun | 9 => 9 | 3 => 3 | 4 => 4 | 20 => 20 | 0 => 0 | 46 => 48 | 109 => 49 | 5 => 5 | 72 => 55 | 76 => 45 | 51 => 59 | 146 => 74 | 53 => 22 | 148 => 76 | 70 => 52 | 37 => 53 | 75 => 44 | 127 => 78 | 164 => 97 | 80 => 58 | n => n, fun | n => n⟩
theorem Tryz.lays105 : Go.Proofs.Lays.n105 Tryz.prog Tryz.lays105_ren := {
  mixed := by kernel_rfl
  f99 := Tryz.func26.trans (congrArg some (by kernel_rfl))
  f105 := Tryz.func9.trans (congrArg some (by kernel_rfl))
  f165 := Tryz.func27.trans (congrArg some (by kernel_rfl))
  f166 := Tryz.func28.trans (congrArg some (by kernel_rfl))
  f169 := Tryz.func30.trans (congrArg some (by kernel_rfl))
  f170 := Tryz.func29.trans (congrArg some (by kernel_rfl))
  f206 := Tryz.func51.trans (congrArg some (by kernel_rfl))
  f212 := Tryz.func25.trans (congrArg some (by kernel_rfl))
  f240 := Tryz.func52.trans (congrArg some (by kernel_rfl))
  f241 := Tryz.func53.trans (congrArg some (by kernel_rfl))
  f263 := Tryz.func49.trans (congrArg some (by kernel_rfl))
  f264 := Tryz.func50.trans (congrArg some (by kernel_rfl))
  f276 := Tryz.func76.trans (congrArg some (by kernel_rfl))
  f277 := Tryz.func77.trans (congrArg some (by kernel_rfl))
  t0 := Tryz.underlying0
  a0 := Tryz.isAgg0
  z0 := Tryz.sizeOf0
  v0 := Tryz.zeroValue0
  t3 := Tryz.underlying3
  a3 := Tryz.isAgg3
  z3 := Tryz.sizeOf3
  v3 := Tryz.zeroValue3
  t4 := Tryz.underlying4
  a4 := Tryz.isAgg4
  z4 := Tryz.sizeOf4
  v4 := Tryz.zeroValue4
  t5 := Tryz.underlying5
  a5 := Tryz.isAgg5
  z5 := Tryz.sizeOf5
  v5 := Tryz.zeroValue5
  t9 := Tryz.underlying9
  a9 := Tryz.isAgg9
  z9 := Tryz.sizeOf9
  v9 := Tryz.zeroValue9
  t20 := Tryz.underlying20
  a20 := Tryz.isAgg20
  z20 := Tryz.sizeOf20
  v20 := Tryz.zeroValue20
  t37 := Tryz.underlying53
  a37 := Tryz.isAgg53
  z37 := Tryz.sizeOf53
  v37 := Tryz.zeroValue53
  t46 := Tryz.underlying48
  a46 := Tryz.isAgg48
  z46 := Tryz.sizeOf48
  v46 := Tryz.zeroValue48
  t51 := Tryz.underlying59
  a51 := Tryz.isAgg59
  z51 := Tryz.sizeOf59
  v51 := Tryz.zeroValue59
  t53 := Tryz.underlying22
  a53 := Tryz.isAgg22
  z53 := Tryz.sizeOf22
  v53 := Tryz.zeroValue22
  t70 := Tryz.underlying52
  a70 := Tryz.isAgg52
  z70 := Tryz.sizeOf52
  v70 := Tryz.zeroValue52
  t72 := Tryz.underlying55
  a72 := Tryz.isAgg55
  z72 := Tryz.sizeOf55
  v72 := Tryz.zeroValue55
  t75 := Tryz.underlying44
  a75 := Tryz.isAgg44
  z75 := Tryz.sizeOf44
  v75 := Tryz.zeroValue44
  t76 := Tryz.underlying45
  a76 := Tryz.isAgg45
  z76 := Tryz.sizeOf45
  v76 := Tryz.zeroValue45
  t109 := Tryz.underlying49
  a109 := Tryz.isAgg49
  z109 := Tryz.sizeOf49
  v109 := Tryz.zeroValue49
  t127 := Tryz.underlying78
  a127 := Tryz.isAgg78
  z127 := Tryz.sizeOf78
  v127 := Tryz.zeroValue78
  t146 := Tryz.underlying74
  a146 := Tryz.isAgg74
  z146 := Tryz.sizeOf74
  v146 := Tryz.zeroValue74
  t148 := Tryz.underlying76
  a148 := Tryz.isAgg76
  z148 := Tryz.sizeOf76
  v148 := Tryz.zeroValue76
  t164 := Tryz.underlying97
  a164 := Tryz.isAgg97
  z164 := Tryz.sizeOf97
  v164 := Tryz.zeroValue97 }
theorem Tryz.Builder_Extra_105 : Builder.Extra Tryz.prog Tryz.lays105_ren := {
  sizeBuilder := by kernel_rfl
  liesBuilder := by kernel_rfl
  t5 := Tryz.underlying5
  a5 := Tryz.isAgg5
  z5 := Tryz.sizeOf5
  v5 := Tryz.zeroValue5
  infoByte := by kernel_rfl
  cellsByte := by kernel_rfl
  sizeByte := by kernel_rfl
  neB5 := by decide }
open Go.RowKit Go.Lib in
theorem Tryz.strings_Repeat_main (s : ByteArray) (c : Nat) (w : World) (hc2 : 2 ≤ c) (hc : c ≤ 9223372036854775807) (hlen : s.size * c ≤ 140737488355328) (h0 : 0 < s.size) :
    Calls Tryz.prog 9 #[.string s, .int .i64 c] w fun e w' => e = .returned (.string ⟨(Lib.repeatL s.data.toList c).toArray⟩) ∧ Below w.heap.size w w' := Any.strings_Repeat_main Tryz.lays105 Tryz.Builder_Extra_105 s c w hc2 hc hlen h0
open Go.RowKit Go.Lib in
theorem Tryz.strings_Repeat_zero (s : ByteArray) (w : World) :
    Calls Tryz.prog 9 #[.string s, .int .i64 0] w fun e w' => e = .returned (.string ⟨#[]⟩) ∧ w' = w := Any.strings_Repeat_zero Tryz.lays105 s w
open Go.RowKit Go.Lib in
theorem Tryz.strings_Repeat_one (s : ByteArray) (w : World) :
    Calls Tryz.prog 9 #[.string s, .int .i64 1] w fun e w' => e = .returned (.string s) ∧ w' = w := Any.strings_Repeat_one Tryz.lays105 s w
open Go.RowKit Go.Lib in
theorem Tryz.strings_Repeat_empty (s : ByteArray) (c : Nat) (w : World) (hc2 : 2 ≤ c) (hc : c ≤ 9223372036854775807) (h0 : s.size = 0) :
    Calls Tryz.prog 9 #[.string s, .int .i64 c] w fun e w' => e = .returned (.string ⟨#[]⟩) ∧ w' = w := Any.strings_Repeat_empty Tryz.lays105 s c w hc2 hc h0
open Go.RowKit Go.Lib in
theorem Tryz.strings_Repeat_negative (s : ByteArray) (c : Int) (w : World) (hc : c < 0) :
    Calls Tryz.prog 9 #[.string s, .int .i64 c] w fun e w' => e = .panicked [{ v := repeatPanic Tryz.lays105_ren "strings: negative Repeat count", recovered := false }] ∧ w' = w := Any.strings_Repeat_negative Tryz.lays105 s c w hc
open Go.RowKit Go.Lib in
theorem Tryz.strings_Repeat_overflow (s : ByteArray) (c : Nat) (w : World) (hc : c ≤ 9223372036854775807) (hs : s.size ≤ 9223372036854775807) (hbig : 9223372036854775807 < s.size * c) :
    Calls Tryz.prog 9 #[.string s, .int .i64 c] w fun e w' => e = .panicked [{ v := repeatPanic Tryz.lays105_ren "strings: Repeat output length overflow", recovered := false }] ∧ w' = w := Any.strings_Repeat_overflow Tryz.lays105 s c w hc hs hbig
open Go.RowKit Go.Lib in
theorem Tryz.strings_Repeat (s : ByteArray) (c : Nat) (w : World) (hc : c ≤ 9223372036854775807) (hlen : s.size * c ≤ 140737488355328) :
    Calls Tryz.prog 9 #[.string s, .int .i64 c] w fun e w' => e = .returned (.string ⟨(Lib.repeatL s.data.toList c).toArray⟩) ∧ Below w.heap.size w w' := Any.strings_Repeat Tryz.lays105 Tryz.Builder_Extra_105 s c w hc hlen
def Tryz.lays260_ren : Go.Shelf.Ren := ⟨fun | 260 => 75 | n => n, fun | 9 => 9 | 21 => 21 | 3 => 3 | 4 => 4 | 5 => 5 | 119 => 126 | 0 => 0 | 46 => 48 | 139 => 129 | 138 => 128 | n => n, fun | 3 => 5 | 4 => 6 | n => n⟩
theorem Tryz.lays260 : Go.Proofs.Lays.n260 Tryz.prog Tryz.lays260_ren := {
  mixed := by kernel_rfl
  f260 := Tryz.func75.trans (congrArg some (by kernel_rfl))
  t0 := Tryz.underlying0
  a0 := Tryz.isAgg0
  z0 := Tryz.sizeOf0
  v0 := Tryz.zeroValue0
  t3 := Tryz.underlying3
  a3 := Tryz.isAgg3
  z3 := Tryz.sizeOf3
  v3 := Tryz.zeroValue3
  t4 := Tryz.underlying4
  a4 := Tryz.isAgg4
  z4 := Tryz.sizeOf4
  v4 := Tryz.zeroValue4
  t5 := Tryz.underlying5
  a5 := Tryz.isAgg5
  z5 := Tryz.sizeOf5
  v5 := Tryz.zeroValue5
  t9 := Tryz.underlying9
  a9 := Tryz.isAgg9
  z9 := Tryz.sizeOf9
  v9 := Tryz.zeroValue9
  t21 := Tryz.underlying21
  a21 := Tryz.isAgg21
  z21 := Tryz.sizeOf21
  v21 := Tryz.zeroValue21
  t46 := Tryz.underlying48
  a46 := Tryz.isAgg48
  z46 := Tryz.sizeOf48
  v46 := Tryz.zeroValue48
  t119 := Tryz.underlying126
  a119 := Tryz.isAgg126
  z119 := Tryz.sizeOf126
  t138 := Tryz.underlying128
  a138 := Tryz.isAgg128
  z138 := Tryz.sizeOf128
  v138 := Tryz.zeroValue128
  t139 := Tryz.underlying129
  a139 := Tryz.isAgg129
  z139 := Tryz.sizeOf129
  v139 := Tryz.zeroValue129
  g3 := by kernel_rfl
  g4 := by kernel_rfl }
open Go.RowKit Go.Lib in
theorem Tryz.utf8_decodeRuneInStringSlow (s : ByteArray) (w : World) (hT : Lib.Utf8Tabs 5 6 w) :
    Calls Tryz.prog 75 #[.string s] w fun e w' => e = .returned (.tuple #[.int .i32 (Lib.decodeGo s).1, .int .i64 (Lib.decodeGo s).2]) ∧ Below w.heap.size w w' := Any.utf8_decodeRuneInStringSlow Tryz.lays260 s w hT
open Go.RowKit Go.Lib in
theorem Tryz.utf8_DecodeRuneInString (s : ByteArray) (w : World) (hT : Lib.Utf8Tabs 5 6 w) :
    Calls Tryz.prog 48 #[.string s] w fun e w' => e = .returned (.tuple #[.int .i32 (Lib.decodeGo s).1, .int .i64 (Lib.decodeGo s).2]) ∧ Below w.heap.size w w' := Any.utf8_DecodeRuneInString Tryz.lays197 s w hT
end Go.Proofs
