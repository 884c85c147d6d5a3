/-
  Plain Lean: units packed as two bytes each; an ASCII text's units; mapped texts and cased units; trimmed units. Conditions: as each says.
-/
import Derived.Test.YtdijkobiffhgcaaDoorMem
namespace Go.Proofs.YtdijkobiffhgcaaDoor.Un
open Go.Lib

def packZ (l : List Int) : List Int := l.flatMap fun u => [u / 256, u % 256]
def packL (l : List Int) : List UInt8 := toBytes (packZ l)

theorem packZ_nil : packZ [] = [] := rfl
theorem packZ_cons (u : Int) (l : List Int) : packZ (u :: l) = [u / 256, u % 256] ++ packZ l := rfl
theorem packZ_append (a b : List Int) : packZ (a ++ b) = packZ a ++ packZ b := by simp [packZ]
theorem packL_append (a b : List Int) : packL (a ++ b) = packL a ++ packL b := by simp [packL, packZ_append, toBytes_append]
theorem packZ_length (l : List Int) : (packZ l).length = 2 * l.length := by
  induction l with
  | nil => rfl
  | cons u l ih => rw [packZ_cons, List.length_append, ih]; simp; omega
theorem packL_length (l : List Int) : (packL l).length = 2 * l.length := by rw [packL, toBytes_length, packZ_length]
theorem packL_one (u : Int) : packL [u] = toBytes [u / 256, u % 256] := rfl

theorem take_succ_getD (zs : List Int) (k : Nat) (h : k < zs.length) : zs.take (k + 1) = zs.take k ++ [zs.getD k 0] := by
  rw [List.take_succ_eq_append_getElem h]; simp [List.getD, List.getElem?_eq_getElem h]

/-- the two bytes of the i-th unit. -/
theorem packZ_at (l : List Int) (i : Nat) (h : i < l.length) : (packZ l)[2 * i]? = some (l.getD i 0 / 256) ∧ (packZ l)[2 * i + 1]? = some (l.getD i 0 % 256) := by
  induction l generalizing i with
  | nil => simp at h
  | cons u l ih =>
    rw [packZ_cons]
    cases i with
    | zero => simp
    | succ i =>
      have := ih i (by simpa using h)
      rw [show 2 * (i + 1) = 2 * i + 2 by omega]
      simp only [List.cons_append, List.nil_append, List.getElem?_cons_succ, show 2 * i + 2 + 1 = (2 * i + 1) + 1 + 1 by omega, List.getD_cons_succ]
      exact this

theorem packZ_range (l : List Int) (h : ∀ u ∈ l, 0 ≤ u ∧ u ≤ 65535) : ∀ x ∈ packZ l, 0 ≤ x ∧ x < 256 := by
  intro x hx
  simp only [packZ, List.mem_flatMap] at hx
  obtain ⟨u, hu, hx⟩ := hx
  have := h u hu
  simp at hx
  rcases hx with rfl | rfl <;> omega

/-- the string whose bytes these are. -/
def packS (l : List Int) : ByteArray := ⟨(packL l).toArray⟩
theorem packS_size (l : List Int) : (packS l).size = 2 * l.length := by
  show (packL l).toArray.size = _
  rw [List.size_toArray, packL_length]
theorem packS_list (l : List Int) : (packS l).data.toList = packL l := rfl

theorem packS_byte (l : List Int) (h : ∀ u ∈ l, 0 ≤ u ∧ u ≤ 65535) (i : Nat) (hi : i < l.length) (h0 : 2 * i < (packS l).size) (h1 : 2 * i + 1 < (packS l).size) :
    (((packS l)[2 * i]'h0).toNat : Int) = l.getD i 0 / 256 ∧ (((packS l)[2 * i + 1]'h1).toNat : Int) = l.getD i 0 % 256 := by
  have hp := packZ_at l i hi
  have key : ∀ (j : Nat) (x : Int) (hj : j < (packS l).size), (packZ l)[j]? = some x → (((packS l)[j]'hj).toNat : Int) = x := by
    intro j x hj hx
    have hr := packZ_range l h x (List.mem_of_getElem? hx)
    have e1 : (packS l).data.toList[j]? = some ((packS l)[j]'hj) := by
      rw [List.getElem?_eq_getElem (by simpa using hj)]; rfl
    rw [packS_list, packL, toBytes, List.getElem?_map, hx] at e1
    simp only [Option.map_some, Option.some.injEq] at e1
    rw [← e1]
    simp
    omega
  exact ⟨key _ _ h0 hp.1, key _ _ h1 hp.2⟩

/-! ### an ASCII text -/
theorem nextL_ascii (a : UInt8) (t : List UInt8) (h : a.toNat < 128) : nextL (a :: t) = (a.toNat, 1) := by
  unfold nextL
  have e : byteAt (a :: t) 0 = a.toNat := rfl
  rw [e]
  unfold nextN decodeN
  rw [if_neg (by omega), if_pos h]

theorem unitsL_ascii (l : List UInt8) (h : ∀ b ∈ l, b.toNat < 128) : unitsL l = l.map fun b => (b.toNat : Int) := by
  induction l with
  | nil => exact unitsL_nil
  | cons a t ih =>
    have ha := h a (by simp)
    rw [unitsL_step _ (by simp), nextL_ascii a t ha]
    simp only [List.drop_succ_cons, List.drop_zero, List.map_cons]
    rw [ih (fun b hb => h b (by simp [hb])), piece, if_neg (by omega)]
    rfl

/-! ### mapped texts -/
/-- the units of a code point that comes out of a mapping (what is none becomes U+FFFD). -/
def cp (x : Int) : List Int := if (0 ≤ x ∧ x < 55296) ∨ (57343 < x ∧ x ≤ 1114111) then piece x.toNat else [65533]

theorem units_cp (x : Int) (t : List UInt8) : unitsL (toBytes (encodeRuneZ x) ++ t) = cp x ++ unitsL t := by
  by_cases h : (0 ≤ x ∧ x < 55296) ∨ (57343 < x ∧ x ≤ 1114111)
  · rw [cp, if_pos h]
    exact units_encode x (by omega) (by omega) (by omega) t
  · rw [cp, if_neg h, encodeRuneZ_bad (by omega)]
    have e := units_of [239, 191, 189] t 65533 (by simp) (by
      have := next_three t 65533 (by omega)
      simpa using this)
    rw [e]
    rfl

/-- the text, each code point by F. -/
def mapL (F : Int → Int) (l : List UInt8) : List UInt8 :=
  if _h : l = [] then [] else
    (if 55296 ≤ (nextL l).1 ∧ (nextL l).1 < 57344 then l.take (nextL l).2 else toBytes (encodeRuneZ (F (nextL l).1))) ++ mapL F (l.drop (nextL l).2)
termination_by l.length
decreasing_by
  have := nextL_width l _h
  have _h0 : 0 < l.length := List.length_pos_iff.2 _h
  simp only [List.length_drop]
  omega

theorem mapL_nil (F : Int → Int) : mapL F [] = [] := by unfold mapL; simp
theorem mapL_step (F : Int → Int) (l : List UInt8) (h : l ≠ []) : mapL F l = (if 55296 ≤ (nextL l).1 ∧ (nextL l).1 < 57344 then l.take (nextL l).2 else toBytes (encodeRuneZ (F (nextL l).1))) ++ mapL F (l.drop (nextL l).2) := by
  conv => lhs; unfold mapL
  rw [dif_neg h]

theorem mapL_length (F : Int → Int) (l : List UInt8) : (mapL F l).length ≤ 4 * l.length := by
  induction l using unitsL.induct with
  | case1 => simp [mapL_nil]
  | case2 l h ih =>
    rw [mapL_step F l h, List.length_append]
    have hw := nextL_width l h
    have hl : (if 55296 ≤ (nextL l).1 ∧ (nextL l).1 < 57344 then l.take (nextL l).2 else toBytes (encodeRuneZ (F (nextL l).1))).length ≤ 4 * (nextL l).2 := by
      split
      · rw [List.length_take]; omega
      · rw [toBytes_length]; have := (encodeRuneZ_length (F (nextL l).1)).2; omega
    simp only [List.length_drop] at ih
    omega

/-- the document's units, each code point by F. -/
def casedL (F : Int → Int) : List Int → List Int
  | [] => []
  | [u] => if 55296 ≤ u ∧ u < 57344 then [u] else cp (F u)
  | u :: v :: t => if hiU u = true ∧ loU v = true then cp (F (65536 + (u - 55296) * 1024 + v - 56320)) ++ casedL F t
    else (if 55296 ≤ u ∧ u < 57344 then [u] else cp (F u)) ++ casedL F (v :: t)

theorem map_of (F : Int → Int) (a : List Int) (t : List UInt8) (r : Nat) (ha : a ≠ []) (hn : nextL (toBytes a ++ t) = (r, a.length)) (hr : ¬ (55296 ≤ r ∧ r < 57344)) :
    mapL F (toBytes a ++ t) = toBytes (encodeRuneZ (F r)) ++ mapL F t := by
  have hne : toBytes a ++ t ≠ [] := by
    cases a with
    | nil => exact absurd rfl ha
    | cons x xs => simp [toBytes]
  rw [mapL_step F _ hne, hn]
  simp only
  rw [if_neg hr, drop_toBytes a t _ rfl]

theorem map_encode (F : Int → Int) (r : Int) (h0 : 0 ≤ r) (h1 : r ≤ 1114111) (hs : ¬ (55296 ≤ r ∧ r < 57344)) (t : List UInt8) : mapL F (toBytes (encodeRuneZ r) ++ t) = toBytes (encodeRuneZ (F r)) ++ mapL F t := by
  have key : ∀ a : List Int, a ≠ [] → nextL (toBytes a ++ t) = (r.toNat, a.length) → mapL F (toBytes a ++ t) = toBytes (encodeRuneZ (F r)) ++ mapL F t := by
    intro a ha hn
    have := map_of F a t r.toNat ha hn (by omega)
    rwa [show ((r.toNat : Nat) : Int) = r by omega] at this
  by_cases a : r ≤ 127
  · rw [encodeRuneZ_one h0 a]; exact key _ (by simp) (next_one t r h0 a)
  · by_cases b : r ≤ 2047
    · rw [encodeRuneZ_two (by omega) b]; exact key _ (by simp) (next_two t r (by omega) b)
    · by_cases c : r ≤ 65535
      · rw [encodeRuneZ_three (by omega)]; exact key _ (by simp) (next_three t r (by omega))
      · rw [encodeRuneZ_four (by omega) h1]; exact key _ (by simp) (next_four t r (by omega) h1)

theorem map_half (F : Int → Int) (u : Int) (h : 55296 ≤ u ∧ u < 57344) (t : List UInt8) : mapL F (toBytes (oneZ u) ++ t) = toBytes (oneZ u) ++ mapL F t := by
  have e : oneZ u = [237, 128 + u / 64 % 64, 128 + u % 64] := by unfold oneZ; rw [if_pos h]
  have hn := next_half t u h.1 h.2
  rw [← e] at hn
  have hne : toBytes (oneZ u) ++ t ≠ [] := by rw [e]; simp [toBytes]
  rw [mapL_step F _ hne, hn]
  simp only
  rw [if_pos (by omega), drop_toBytes (oneZ u) t 3 (by rw [e]; rfl)]
  congr 1
  rw [List.take_append_of_le_length (by rw [toBytes_length, e]; simp), List.take_of_length_le (by rw [toBytes_length, e]; simp)]

theorem units_half (u : Int) (h : 55296 ≤ u ∧ u < 57344) (t : List UInt8) : unitsL (toBytes (oneZ u) ++ t) = u :: unitsL t := units_one u (by omega) (by omega) t

/-- P11: the program's mapping of the text of units, and the document's of the units, give the same units. -/
theorem units_map (F : Int → Int) (l : List Int) (h : ∀ u ∈ l, 0 ≤ u ∧ u ≤ 65535) : unitsL (mapL F (textL l)) = casedL F l := by
  unfold textL
  induction l using textZ.induct with
  | case1 => simp [textZ, toBytes, mapL_nil, unitsL_nil, casedL]
  | case2 u =>
    have hu := h u (by simp)
    have e0 : mapL F ([] : List UInt8) = [] := mapL_nil F
    rw [textZ, casedL, ← List.append_nil (toBytes (oneZ u))]
    split
    · rename_i hs
      rw [map_half F u hs, e0, units_half u hs, unitsL_nil]
    · rename_i hs
      have : oneZ u = encodeRuneZ u := by unfold oneZ; rw [if_neg hs]
      rw [this, map_encode F u hu.1 (by omega) hs, e0, units_cp, unitsL_nil, List.append_nil]
  | case3 u v t hc ih =>
    have hu := h u (by simp)
    have hv := h v (by simp)
    have hc' := hc
    rw [hiU_iff, loU_iff] at hc'
    rw [textZ, if_pos hc, casedL, if_pos hc, toBytes_append, map_encode F _ (by omega) (by omega) (by omega), units_cp, ih (fun x hx => h x (by simp [hx]))]
    rw [show 65536 + (u - 55296) * 1024 + v - 56320 = 65536 + (u - 55296) * 1024 + (v - 56320) by omega]
  | case4 u v t hc ih =>
    have hu := h u (by simp)
    have ih' := ih (fun x hx => h x (by simp [hx]))
    rw [textZ, if_neg hc, casedL, if_neg hc, toBytes_append]
    split
    · rename_i hs
      rw [map_half F u hs, units_half u hs, ih']
      rfl
    · rename_i hs
      have : oneZ u = encodeRuneZ u := by unfold oneZ; rw [if_neg hs]
      rw [this, map_encode F u hu.1 (by omega) hs, units_cp, ih']

theorem cp_range (x : Int) : ∀ u ∈ cp x, 0 ≤ u ∧ u ≤ 65535 := by
  intro u hu
  unfold cp at hu
  split at hu
  · exact piece_range _ (by omega) u hu
  · simp at hu; omega
theorem cp_length (x : Int) : (cp x).length ≤ 2 := by
  unfold cp
  split
  · exact (piece_length _).2
  · simp

theorem casedL_length (F : Int → Int) : ∀ l : List Int, (casedL F l).length ≤ 2 * l.length
  | [] => by simp [casedL]
  | [u] => by
    have := cp_length (F u)
    rw [casedL]
    split
    · simp
    · simp only [List.length_singleton]; omega
  | u :: v :: t => by
    have a := cp_length (F (65536 + (u - 55296) * 1024 + v - 56320))
    have b := cp_length (F u)
    have c := casedL_length F t
    have d := casedL_length F (v :: t)
    rw [casedL]
    split
    · rw [List.length_append]; simp only [List.length_cons] at *; omega
    · rw [List.length_append]
      split
      · simp only [List.length_cons, List.length_nil] at *; omega
      · simp only [List.length_cons] at *; omega

theorem casedL_range (F : Int → Int) : ∀ l : List Int, (∀ u ∈ l, 0 ≤ u ∧ u ≤ 65535) → ∀ u ∈ casedL F l, 0 ≤ u ∧ u ≤ 65535
  | [], _ => by simp [casedL]
  | [u], h => by
    rw [casedL]
    split
    · intro x hx; simp at hx; subst hx; exact h x (by simp)
    · exact cp_range _
  | u :: v :: t, h => by
    have c := casedL_range F t (fun x hx => h x (by simp [hx]))
    have d := casedL_range F (v :: t) (fun x hx => h x (by simp [hx]))
    rw [casedL]
    split
    · intro x hx
      rcases List.mem_append.1 hx with hx | hx
      · exact cp_range _ x hx
      · exact c x hx
    · intro x hx
      rcases List.mem_append.1 hx with hx | hx
      · split at hx
        · simp at hx; subst hx; exact h x (by simp)
        · exact cp_range _ x hx
      · exact d x hx

/-! ### trimmed units -/
def trimFront (W : Int → Bool) (l : List Int) : List Int := l.dropWhile W
def trimEnd (W : Int → Bool) (l : List Int) : List Int := (l.reverse.dropWhile W).reverse
def trimL (W : Int → Bool) (l : List Int) : List Int := trimEnd W (trimFront W l)

end Go.Proofs.YtdijkobiffhgcaaDoor.Un
