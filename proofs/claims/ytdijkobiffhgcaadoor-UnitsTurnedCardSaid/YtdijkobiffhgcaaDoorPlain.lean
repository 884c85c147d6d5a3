/-
  Plain Lean, no program in sight: the units of a text, the text of units, as functions on lists; and that the units of the text of units are these units. Conditions: each unit is from 0 to 65535.
-/
import Derived.Lib.DecodeN
import Derived.Lib.RuneBytes
import Derived.Shelf.Unicode.DecodeSlow
namespace Go.Proofs.YtdijkobiffhgcaaDoor.Un
open Go.Lib

/-- what stands at the front of a text of n bytes that begins b0 b1 b2 b3: the code point (or the half that stands alone), and how many bytes it has. -/
def nextN (n b0 b1 b2 b3 : Nat) : Nat × Nat :=
  if 2 < n ∧ b0 = 237 ∧ 160 ≤ b1 ∧ b1 < 192 ∧ 128 ≤ b2 ∧ b2 < 192 then (53248 + b1 % 64 * 64 + b2 % 64, 3) else decodeN n b0 b1 b2 b3

def byteAt (l : List UInt8) (i : Nat) : Nat := (l[i]?.getD 0).toNat

def nextL (l : List UInt8) : Nat × Nat := nextN l.length (byteAt l 0) (byteAt l 1) (byteAt l 2) (byteAt l 3)

/-- the units of one code point. -/
def piece (r : Nat) : List Int := if 65536 ≤ r then [55296 + ((r : Int) - 65536) / 1024, 56320 + ((r : Int) - 65536) % 1024] else [(r : Int)]

theorem decodeN_width (n b0 b1 b2 b3 : Nat) (hn : 1 ≤ n) : 1 ≤ (decodeN n b0 b1 b2 b3).2 ∧ (decodeN n b0 b1 b2 b3).2 ≤ n ∧ (decodeN n b0 b1 b2 b3).2 ≤ 4 := by
  unfold decodeN
  repeat' split
  all_goals simp only
  all_goals omega

theorem decodeN_rune (n b0 b1 b2 b3 : Nat) : (decodeN n b0 b1 b2 b3).1 ≤ 1114111 := by
  unfold decodeN
  repeat' split
  all_goals simp only
  all_goals omega

theorem nextN_width (n b0 b1 b2 b3 : Nat) (hn : 1 ≤ n) : 1 ≤ (nextN n b0 b1 b2 b3).2 ∧ (nextN n b0 b1 b2 b3).2 ≤ n ∧ (nextN n b0 b1 b2 b3).2 ≤ 4 := by
  unfold nextN
  split
  · simp only; omega
  · exact decodeN_width n b0 b1 b2 b3 hn

theorem nextN_rune (n b0 b1 b2 b3 : Nat) : (nextN n b0 b1 b2 b3).1 ≤ 1114111 := by
  unfold nextN
  split
  · simp only; omega
  · exact decodeN_rune n b0 b1 b2 b3

theorem nextL_width (l : List UInt8) (h : l ≠ []) : 1 ≤ (nextL l).2 ∧ (nextL l).2 ≤ l.length ∧ (nextL l).2 ≤ 4 := by
  refine nextN_width _ _ _ _ _ ?_
  cases l with
  | nil => exact absurd rfl h
  | cons a t => simp

theorem nextL_rune (l : List UInt8) : (nextL l).1 ≤ 1114111 := nextN_rune _ _ _ _ _

/-- the units of a text. -/
def unitsL (l : List UInt8) : List Int :=
  if _h : l = [] then [] else
    piece (nextL l).1 ++ unitsL (l.drop (nextL l).2)
termination_by l.length
decreasing_by
  have := nextL_width l _h
  have _h0 : 0 < l.length := List.length_pos_iff.2 _h
  simp only [List.length_drop]
  omega

theorem unitsL_nil : unitsL [] = [] := by unfold unitsL; simp
theorem unitsL_step (l : List UInt8) (h : l ≠ []) : unitsL l = piece (nextL l).1 ++ unitsL (l.drop (nextL l).2) := by
  conv => lhs; unfold unitsL
  rw [dif_neg h]

theorem piece_range (r : Nat) (hr : r ≤ 1114111) : ∀ u ∈ piece r, 0 ≤ u ∧ u ≤ 65535 := by
  intro u hu
  unfold piece at hu
  split at hu
  · simp at hu; omega
  · simp at hu; omega

theorem piece_length (r : Nat) : 1 ≤ (piece r).length ∧ (piece r).length ≤ 2 := by
  unfold piece
  split <;> simp

theorem unitsL_range (l : List UInt8) : ∀ u ∈ unitsL l, 0 ≤ u ∧ u ≤ 65535 := by
  induction l using unitsL.induct with
  | case1 => rw [unitsL_nil]; intro u hu; cases hu
  | case2 l h ih =>
    rw [unitsL_step l h]
    intro u hu
    rcases List.mem_append.1 hu with hu | hu
    · exact piece_range _ (nextL_rune l) u hu
    · exact ih u hu

/-- The least number of bytes that a code point of two units takes is four; so never more units than bytes. -/
theorem piece_le (l : List UInt8) (h : l ≠ []) : (piece (nextL l).1).length ≤ (nextL l).2 := by
  have hw := nextL_width l h
  unfold piece
  split
  · rename_i hb
    simp only [List.length_cons, List.length_nil]
    revert hb hw
    unfold nextL nextN decodeN
    repeat' split
    all_goals simp only
    all_goals omega
  · simpa using hw.1

theorem unitsL_length (l : List UInt8) : (unitsL l).length ≤ l.length := by
  induction l using unitsL.induct with
  | case1 => simp [unitsL_nil]
  | case2 l h ih =>
    rw [unitsL_step l h, List.length_append]
    have := piece_le l h
    have hw := nextL_width l h
    simp only [List.length_drop] at ih
    omega

def hiU (u : Int) : Bool := decide (55296 ≤ u) && decide (u < 56320)
def loU (u : Int) : Bool := decide (56320 ≤ u) && decide (u < 57344)

/-- the bytes of a unit that stands alone. -/
def oneZ (u : Int) : List Int := if 55296 ≤ u ∧ u < 57344 then [237, 128 + u / 64 % 64, 128 + u % 64] else encodeRuneZ u
def toBytes (l : List Int) : List UInt8 := l.map fun x => x.toNat.toUInt8

/-- the numbers of the bytes of the text of units. -/
def textZ : List Int → List Int
  | [] => []
  | [u] => oneZ u
  | u :: v :: t => if hiU u = true ∧ loU v = true then encodeRuneZ (65536 + (u - 55296) * 1024 + (v - 56320)) ++ textZ t else oneZ u ++ textZ (v :: t)

def textL (l : List Int) : List UInt8 := toBytes (textZ l)

theorem toBytes_append (a b : List Int) : toBytes (a ++ b) = toBytes a ++ toBytes b := by simp [toBytes]
theorem toBytes_length (a : List Int) : (toBytes a).length = a.length := by simp [toBytes]

theorem oneZ_length (u : Int) : 1 ≤ (oneZ u).length ∧ (oneZ u).length ≤ 4 := by
  unfold oneZ
  split
  · simp
  · exact encodeRuneZ_length u

theorem oneZ_byte (u : Int) : ∀ x ∈ oneZ u, 0 ≤ x ∧ x < 256 := by
  intro x hx
  unfold oneZ at hx
  split at hx
  · simp at hx; omega
  · exact encodeRuneZ_byte u x hx

theorem byteAt_toBytes (a : List Int) (t : List UInt8) (i : Nat) (x : Int) (hi : a[i]? = some x) (_h0 : 0 ≤ x) (_h1 : x < 256) : byteAt (toBytes a ++ t) i = x.toNat := by
  have hlt : i < a.length := by
    rcases Nat.lt_or_ge i a.length with h | h
    · exact h
    · rw [List.getElem?_eq_none h] at hi; cases hi
  unfold byteAt
  rw [List.getElem?_append_left (by rw [toBytes_length]; exact hlt)]
  simp only [toBytes, List.getElem?_map, hi, Option.map_some, Option.getD_some]
  simp
  omega

theorem drop_toBytes (a : List Int) (t : List UInt8) (n : Nat) (h : a.length = n) : (toBytes a ++ t).drop n = t := by
  rw [← h, ← toBytes_length a]; simp

theorem units_of (a : List Int) (t : List UInt8) (r : Nat) (ha : a ≠ []) (hn : nextL (toBytes a ++ t) = (r, a.length)) : unitsL (toBytes a ++ t) = piece r ++ unitsL t := by
  have hne : toBytes a ++ t ≠ [] := by
    cases a with
    | nil => exact absurd rfl ha
    | cons x xs => simp [toBytes]
  rw [unitsL_step _ hne, hn]
  simp only
  rw [drop_toBytes a t _ rfl]

theorem next_one (t : List UInt8) (a : Int) (h0 : 0 ≤ a) (h1 : a ≤ 127) : nextL (toBytes [a] ++ t) = (a.toNat, 1) := by
  have e0 := byteAt_toBytes [a] t 0 a rfl h0 (by omega)
  unfold nextL
  rw [e0]
  unfold nextN decodeN
  rw [if_neg (by omega), if_pos (by omega)]

theorem next_two (t : List UInt8) (r : Int) (h0 : 128 ≤ r) (h1 : r ≤ 2047) : nextL (toBytes [192 + r / 64, 128 + r % 64] ++ t) = (r.toNat, 2) := by
  have e0 := byteAt_toBytes [192 + r / 64, 128 + r % 64] t 0 _ rfl (by omega) (by omega)
  have e1 := byteAt_toBytes [192 + r / 64, 128 + r % 64] t 1 _ rfl (by omega) (by omega)
  have hl : 2 ≤ (toBytes [192 + r / 64, 128 + r % 64] ++ t).length := by simp [toBytes]
  unfold nextL
  rw [e0, e1]
  generalize (toBytes [192 + r / 64, 128 + r % 64] ++ t).length = n at hl ⊢
  unfold nextN decodeN
  rw [if_neg (by omega), if_neg (by omega), if_pos (by omega), if_pos (by omega)]
  simp only [Prod.mk.injEq, and_true]
  omega

theorem next_three (t : List UInt8) (r : Int) (h : (2048 ≤ r ∧ r < 55296) ∨ (57343 < r ∧ r ≤ 65535)) : nextL (toBytes [224 + r / 4096, 128 + r / 64 % 64, 128 + r % 64] ++ t) = (r.toNat, 3) := by
  have e0 := byteAt_toBytes [224 + r / 4096, 128 + r / 64 % 64, 128 + r % 64] t 0 _ rfl (by omega) (by omega)
  have e1 := byteAt_toBytes [224 + r / 4096, 128 + r / 64 % 64, 128 + r % 64] t 1 _ rfl (by omega) (by omega)
  have e2 := byteAt_toBytes [224 + r / 4096, 128 + r / 64 % 64, 128 + r % 64] t 2 _ rfl (by omega) (by omega)
  have hl : 3 ≤ (toBytes [224 + r / 4096, 128 + r / 64 % 64, 128 + r % 64] ++ t).length := by simp [toBytes]
  unfold nextL
  rw [e0, e1, e2]
  generalize (toBytes [224 + r / 4096, 128 + r / 64 % 64, 128 + r % 64] ++ t).length = n at hl ⊢
  have hv : (224 + r / 4096).toNat % 16 * 4096 + (128 + r / 64 % 64).toNat % 64 * 64 + (128 + r % 64).toNat % 64 = r.toNat := by omega
  unfold nextN decodeN
  rw [if_neg (by omega), if_neg (by omega), if_neg (by omega), if_pos (by omega), hv, if_pos (by omega)]

theorem next_half (t : List UInt8) (u : Int) (h0 : 55296 ≤ u) (h1 : u < 57344) : nextL (toBytes [237, 128 + u / 64 % 64, 128 + u % 64] ++ t) = (u.toNat, 3) := by
  have e0 := byteAt_toBytes [237, 128 + u / 64 % 64, 128 + u % 64] t 0 _ rfl (by omega) (by omega)
  have e1 := byteAt_toBytes [237, 128 + u / 64 % 64, 128 + u % 64] t 1 _ rfl (by omega) (by omega)
  have e2 := byteAt_toBytes [237, 128 + u / 64 % 64, 128 + u % 64] t 2 _ rfl (by omega) (by omega)
  have hl : 3 ≤ (toBytes [237, 128 + u / 64 % 64, 128 + u % 64] ++ t).length := by simp [toBytes]
  unfold nextL
  rw [e0, e1, e2]
  generalize (toBytes [237, 128 + u / 64 % 64, 128 + u % 64] ++ t).length = n at hl ⊢
  unfold nextN
  rw [if_pos (by omega)]
  simp only [Prod.mk.injEq, and_true]
  omega

theorem next_four (t : List UInt8) (r : Int) (h0 : 65536 ≤ r) (h1 : r ≤ 1114111) : nextL (toBytes [240 + r / 262144, 128 + r / 4096 % 64, 128 + r / 64 % 64, 128 + r % 64] ++ t) = (r.toNat, 4) := by
  have e0 := byteAt_toBytes [240 + r / 262144, 128 + r / 4096 % 64, 128 + r / 64 % 64, 128 + r % 64] t 0 _ rfl (by omega) (by omega)
  have e1 := byteAt_toBytes [240 + r / 262144, 128 + r / 4096 % 64, 128 + r / 64 % 64, 128 + r % 64] t 1 _ rfl (by omega) (by omega)
  have e2 := byteAt_toBytes [240 + r / 262144, 128 + r / 4096 % 64, 128 + r / 64 % 64, 128 + r % 64] t 2 _ rfl (by omega) (by omega)
  have e3 := byteAt_toBytes [240 + r / 262144, 128 + r / 4096 % 64, 128 + r / 64 % 64, 128 + r % 64] t 3 _ rfl (by omega) (by omega)
  have hl : 4 ≤ (toBytes [240 + r / 262144, 128 + r / 4096 % 64, 128 + r / 64 % 64, 128 + r % 64] ++ t).length := by simp [toBytes]
  unfold nextL
  rw [e0, e1, e2, e3]
  generalize (toBytes [240 + r / 262144, 128 + r / 4096 % 64, 128 + r / 64 % 64, 128 + r % 64] ++ t).length = n at hl ⊢
  have hv : (240 + r / 262144).toNat % 8 * 262144 + (128 + r / 4096 % 64).toNat % 64 * 4096 + (128 + r / 64 % 64).toNat % 64 * 64 + (128 + r % 64).toNat % 64 = r.toNat := by omega
  unfold nextN decodeN
  rw [if_neg (by omega), if_neg (by omega), if_neg (by omega), if_neg (by omega), if_pos (by omega), hv, if_pos (by omega)]

/-- what is written of a code point is read again, whatever stands behind it. -/
theorem units_encode (r : Int) (h0 : 0 ≤ r) (h1 : r ≤ 1114111) (hs : ¬ (55296 ≤ r ∧ r < 57344)) (t : List UInt8) : unitsL (toBytes (encodeRuneZ r) ++ t) = piece r.toNat ++ unitsL t := by
  by_cases a : r ≤ 127
  · rw [encodeRuneZ_one h0 a]; exact units_of _ _ _ (by simp) (next_one t r h0 a)
  · by_cases b : r ≤ 2047
    · rw [encodeRuneZ_two (by omega) b]; exact units_of _ _ _ (by simp) (next_two t r (by omega) b)
    · by_cases c : r ≤ 65535
      · rw [encodeRuneZ_three (by omega)]; exact units_of _ _ _ (by simp) (next_three t r (by omega))
      · rw [encodeRuneZ_four (by omega) h1]; exact units_of _ _ _ (by simp) (next_four t r (by omega) h1)

theorem units_one (u : Int) (h0 : 0 ≤ u) (h1 : u ≤ 65535) (t : List UInt8) : unitsL (toBytes (oneZ u) ++ t) = u :: unitsL t := by
  have hp : piece u.toNat = [u] := by
    unfold piece
    rw [if_neg (by omega)]
    simp
    omega
  unfold oneZ
  split
  · rename_i h
    rw [units_of _ t _ (by simp) (next_half t u h.1 h.2), hp]
    rfl
  · rename_i h
    rw [units_encode u h0 (by omega) h t, hp]
    rfl

theorem hiU_iff (u : Int) : hiU u = true ↔ 55296 ≤ u ∧ u < 56320 := by simp [hiU]
theorem loU_iff (u : Int) : loU u = true ↔ 56320 ≤ u ∧ u < 57344 := by simp [loU]

/-- P10: the units of the text of units are these units, whatever they are. -/
theorem units_text (l : List Int) (h : ∀ u ∈ l, 0 ≤ u ∧ u ≤ 65535) : unitsL (textL l) = l := by
  unfold textL
  induction l using textZ.induct with
  | case1 => simp [textZ, toBytes, unitsL_nil]
  | case2 u =>
    have := h u (by simp)
    have e := units_one u this.1 this.2 []
    rw [List.append_nil, unitsL_nil] at e
    simpa [textZ] using e
  | case3 u v t hc ih =>
    have hu := h u (by simp)
    have hv := h v (by simp)
    have hc' := hc
    rw [hiU_iff, loU_iff] at hc'
    rw [textZ, if_pos hc, toBytes_append, units_encode _ (by omega) (by omega) (by omega), ih (fun x hx => h x (by simp [hx]))]
    have hp : piece (65536 + (u - 55296) * 1024 + (v - 56320)).toNat = [u, v] := by
      unfold piece
      rw [if_pos (by omega)]
      have e : (((65536 + (u - 55296) * 1024 + (v - 56320)).toNat : Nat) : Int) = 65536 + (u - 55296) * 1024 + (v - 56320) := by omega
      rw [e]
      simp only [List.cons.injEq, and_true]
      omega
    rw [hp]
    rfl
  | case4 u v t hc ih =>
    have hu := h u (by simp)
    rw [textZ, if_neg hc, toBytes_append, units_one u hu.1 hu.2, ih (fun x hx => h x (by simp [hx]))]

theorem textZ_length : ∀ l : List Int, (textZ l).length ≤ 4 * l.length
  | [] => by simp [textZ]
  | [u] => by have := (oneZ_length u).2; simp only [textZ, List.length_singleton]; omega
  | u :: v :: t => by
    rw [textZ]
    have a := (encodeRuneZ_length (65536 + (u - 55296) * 1024 + (v - 56320))).2
    have b := (oneZ_length u).2
    have c := textZ_length t
    have d := textZ_length (v :: t)
    split
    · rw [List.length_append]; simp only [List.length_cons] at *; omega
    · rw [List.length_append]; simp only [List.length_cons] at *; omega

end Go.Proofs.YtdijkobiffhgcaaDoor.Un
