/-
  What strings.Cut, strconv.Atoi and strings.Replace make of an 'e' text. No program in sight.
-/
import Derived.Test.YtdijkobiffhgcaaGreatDoorEfgW
import Derived.Lib.IndexBytes
import Derived.Lib.Replace
import Derived.Lib.Atoi
namespace Go.Proofs.YtdijkobiffhgcaaGreatDoor.Nu
open Go.Lib

theorem indexByte_at (c : UInt8) : ∀ (a r : List UInt8), c ∉ a → indexByte (a ++ c :: r) c = a.length
  | [], r, _ => by simp [indexByte]
  | y :: a, r, h => by
    have hy : ¬ (y == c) = true := fun e => h (by rw [beq_iff_eq] at e; subst e; simp)
    have ih := indexByte_at c a r (fun hh => h (List.mem_cons_of_mem _ hh))
    show (if (y == c) = true then (0 : Int) else if (indexByte (a ++ c :: r) c == -1) = true then -1 else indexByte (a ++ c :: r) c + 1) = _
    rw [if_neg hy, ih, if_neg (by rw [beq_iff_eq]; omega)]
    simp

theorem indexByte_no (c : UInt8) : ∀ (a : List UInt8), c ∉ a → indexByte a c = -1
  | [], _ => rfl
  | y :: a, h => by
    have hy : ¬ (y == c) = true := fun e => h (by rw [beq_iff_eq] at e; subst e; simp)
    have ih := indexByte_no c a (fun hh => h (List.mem_cons_of_mem _ hh))
    show (if (y == c) = true then (0 : Int) else if (indexByte a c == -1) = true then -1 else indexByte a c + 1) = _
    rw [if_neg hy, ih]
    rfl

theorem cut_at (c : UInt8) (a r : List UInt8) (h : c ∉ a) : cut (a ++ c :: r) [c] = (a, r, true) := by
  unfold cut
  rw [index_one, indexByte_at c a r h, if_pos (by omega)]
  simp [List.drop_append]

theorem decD_mem (n : Nat) : ∀ b ∈ dec n, 48 ≤ b.toNat ∧ b.toNat ≤ 57 := by
  intro b hb
  unfold dec at hb
  rw [List.mem_map] at hb
  obtain ⟨x, hx, rfl⟩ := hb
  have hx' : x ∈ decR n := by simpa using hx
  have key : ∀ k n, n ≤ k → ∀ y ∈ decR n, y < 10 := by
    intro k
    induction k with
    | zero => intro n hn y hy; obtain rfl : n = 0 := by omega
              rw [decR] at hy; simp at hy
    | succ k ih =>
      intro n hn y hy
      rw [decR] at hy
      split at hy
      · simp at hy
      · rw [List.mem_cons] at hy
        rcases hy with rfl | hy
        · omega
        · exact ih _ (by omega) y hy
  have h10 := key n n (Nat.le_refl _) x hx'
  rw [UInt8.toNat_ofNat']
  omega

/-- what stands before the 'e'. -/
def mText (l : List UInt8) : List UInt8 := if l.length ≤ 1 then l else l.take 1 ++ 46 :: l.drop 1
def sText (x : Int) : List UInt8 := (if x < 0 then 45 else 43) :: expDig x.natAbs
theorem eText_eq (l : List UInt8) (x : Int) : eText l x = mText l ++ 101 :: sText x := rfl

theorem not_in {l : List UInt8} (h : ∀ b ∈ l, 48 ≤ b.toNat ∧ b.toNat ≤ 57) (c : UInt8) (hc : c.toNat < 48 ∨ 57 < c.toNat) : c ∉ l := fun hm => by have := h c hm; omega

theorem cut_eText (l : List UInt8) (x : Int) (h : ∀ b ∈ l, 48 ≤ b.toNat ∧ b.toNat ≤ 57) : cut (eText l x) [101] = (mText l, sText x, true) := by
  rw [eText_eq]
  refine cut_at _ _ _ ?_
  unfold mText
  split
  · exact not_in h _ (.inr (by decide))
  · intro hm
    rw [List.mem_append, List.mem_cons] at hm
    rcases hm with hm | hm | hm
    · exact not_in h 101 (.inr (by decide)) (List.mem_of_mem_take hm)
    · exact absurd hm (by decide)
    · exact not_in h 101 (.inr (by decide)) (List.mem_of_mem_drop hm)

theorem digitVal_of (d : Nat) (h : d < 10) : digitVal (UInt8.ofNat (48 + d)) = some d := by
  have e : (UInt8.ofNat (48 + d)).toNat = 48 + d := by rw [UInt8.toNat_ofNat']; omega
  unfold digitVal
  rw [e, if_pos (by omega)]
  congr 1
  omega

theorem decNat_exp (x : Nat) (h : x ≤ 999) : decNat (expDig x) = some x := by
  unfold expDig
  split
  · rename_i h1
    show decFrom 0 [48, UInt8.ofNat (48 + x)] = some x
    have e : digitVal 48 = some 0 := by decide
    simp only [decFrom, e, digitVal_of x h1]
    congr 1
    omega
  · split
    · rename_i h1 h2
      show decFrom 0 [_, _] = some x
      simp only [decFrom, digitVal_of (x / 10) (by omega), digitVal_of (x % 10) (by omega)]
      congr 1
      omega
    · rename_i h1 h2
      show decFrom 0 [_, _, _] = some x
      simp only [decFrom, digitVal_of (x / 100) (by omega), digitVal_of (x / 10 % 10) (by omega), digitVal_of (x % 10) (by omega)]
      congr 1
      omega

theorem atoi_sText (x : Int) (h : -999 ≤ x ∧ x ≤ 999) : atoi (sText x) = some x := by
  have e := decNat_exp x.natAbs (by omega)
  unfold sText
  by_cases hx : x < 0
  · rw [if_pos hx]
    show (decNat (expDig x.natAbs)).map (fun (m : Nat) => -(m : Int)) = some x
    rw [e]
    simp only [Option.map_some, Option.some.injEq]
    omega
  · rw [if_neg hx]
    show (decNat (expDig x.natAbs)).map (fun (m : Nat) => (m : Int)) = some x
    rw [e]
    simp only [Option.map_some, Option.some.injEq]
    omega

theorem sText_len (x : Int) : (sText x).length ≤ 4 := by
  unfold sText expDig
  split <;> split <;> (try split) <;> simp

theorem replace_mText (l : List UInt8) (h : ∀ b ∈ l, 48 ≤ b.toNat ∧ b.toNat ≤ 57) : replace (mText l) [46] [] 1 = l := by
  have hne : ¬ (([46] : List UInt8) == []) = true := by decide
  unfold replace
  rw [if_neg hne]
  unfold mText
  by_cases hl : l.length ≤ 1
  · rw [if_pos hl]
    have hi : index l [46] = -1 := by rw [index_one]; exact indexByte_no _ _ (not_in h 46 (.inl (by decide)))
    have hc : count l [46] = 0 := count_miss hi
    unfold replaceNum
    rw [hc, if_pos (.inr (by decide))]
    rfl
  · rw [if_neg hl]
    have h1 : (46 : UInt8) ∉ l.take 1 := fun hm => not_in h 46 (.inl (by decide)) (List.mem_of_mem_take hm)
    have hi : index (l.take 1 ++ 46 :: l.drop 1) [46] = ((l.take 1).length : Nat) := by rw [index_one]; exact indexByte_at _ _ _ h1
    have hc : 1 ≤ count (l.take 1 ++ 46 :: l.drop 1) [46] := by
      unfold count
      rw [countFrom, if_neg (by rw [hi, beq_iff_eq]; omega)]
      omega
    unfold replaceNum
    rw [if_neg (by omega)]
    show replaceK [46] [] (0 + 1) _ = l
    rw [replaceK_hit _ _ _ _ _ hi]
    have e1 : (l.take 1).length = 1 := by rw [List.length_take]; omega
    rw [e1]
    show (l.take 1 ++ 46 :: l.drop 1).take 1 ++ [] ++ (l.take 1 ++ 46 :: l.drop 1).drop (1 + 1) = l
    match l, hl with
    | y :: z :: r, _ => rfl
    | [_], hl => exact absurd (by simp) hl
    | [], hl => exact absurd (by simp) hl

theorem mText_len (l : List UInt8) : (mText l).length ≤ l.length + 1 := by
  unfold mText
  split
  · omega
  · rw [List.length_append, List.length_cons, List.length_take, List.length_drop]; omega
end Go.Proofs.YtdijkobiffhgcaaGreatDoor.Nu
