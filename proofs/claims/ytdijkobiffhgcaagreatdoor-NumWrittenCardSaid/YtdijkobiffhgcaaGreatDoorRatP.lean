/-
  The place that Ratio chooses; when its word is the number's. Plain: no program in sight.
-/
import Derived.Test.YtdijkobiffhgcaaGreatDoorBitsW
import Derived.Test.YtdijkobiffhgcaaGreatDoorFloat
namespace Go.Proofs.YtdijkobiffhgcaaGreatDoor.Nu

theorem num_mul (P : Nat) (e : Int) : P * 2 ^ (-e).toNat = if e < 0 then P * 2 ^ (-e).toNat else P := by
  split
  · rfl
  · rw [show (-e).toNat = 0 by omega]; simp

/-- the first guess. -/
theorem f_first (P Q : Nat) (hP : 0 < P) (hQ : 0 < Q) (e : Int) (he : e = (blen P : Int) - blen Q - 54) : fAt P Q e < 36028797018963968 ∧ 9007199254740992 ≤ fAt P Q e := by
  have p1 := blen_le P
  have p2 := blen_ge P (by omega)
  have q1 := blen_le Q
  have q2 := blen_ge Q (by omega)
  have bp : 0 < blen P := by unfold blen; rw [if_neg (by omega)]; omega
  have bq : 0 < blen Q := by unfold blen; rw [if_neg (by omega)]; omega
  constructor
  · unfold fAt
    rw [Nat.div_lt_iff_lt_mul (Nat.mul_pos hQ (Nat.pow_pos (by omega)))]
    have a := Nat.mul_lt_mul_of_pos_right p1 (Nat.pow_pos (n := (-e).toNat) (show 0 < 2 by omega))
    have b := Nat.mul_le_mul_right (2 ^ e.toNat) q2
    rw [← Nat.pow_add] at a b
    have c : 2 ^ (blen P + (-e).toNat) = 36028797018963968 * 2 ^ (blen Q - 1 + e.toNat) := by
      rw [show (36028797018963968 : Nat) = 2 ^ 55 by decide, ← Nat.pow_add]; congr 1; omega
    have d := Nat.mul_le_mul_left 36028797018963968 b
    omega
  · rw [f_le P Q hQ]
    have a := Nat.mul_le_mul_right (2 ^ (-e).toNat) p2
    have b := Nat.mul_lt_mul_of_pos_right q1 (Nat.pow_pos (n := e.toNat) (show 0 < 2 by omega))
    rw [← Nat.pow_add] at a b
    have c : 2 ^ (blen P - 1 + (-e).toNat) = 9007199254740992 * 2 ^ (blen Q + e.toNat) := by
      rw [show (9007199254740992 : Nat) = 2 ^ 53 by decide, ← Nat.pow_add]; congr 1; omega
    have d := Nat.mul_le_mul_left 9007199254740992 (Nat.le_of_lt b)
    omega

/-- at the loop's head (e is raised to the least place first). -/
structure RatAt (P Q : Nat) (e : Int) : Prop where
  lt : fAt P Q (max e (-1074)) < 2305843009213693952
  full : max e (-1074) = -1074 ∨ 9007199254740992 ≤ fAt P Q (max e (-1074) - 1)
theorem RatAt.start (P Q : Nat) (hP : 0 < P) (hQ : 0 < Q) (e : Int) (he : e = (blen P : Int) - blen Q - 54) : RatAt P Q e := by
  obtain ⟨a, b⟩ := f_first P Q hP hQ e he
  by_cases h : e ≤ -1074
  · have e1 : max e (-1074) = -1074 := by omega
    obtain ⟨j, hj⟩ : ∃ j : Nat, (-1074 : Int) = e + (j : Int) := ⟨(-1074 - e).toNat, by omega⟩
    have g := f_antitone P Q hQ e j
    rw [← hj] at g
    have p : fAt P Q (-1074) ≤ fAt P Q (-1074) * 2 ^ j := Nat.le_mul_of_pos_right _ (Nat.pow_pos (by omega))
    exact ⟨by rw [e1]; omega, .inl e1⟩
  · have e1 : max e (-1074) = e := by omega
    refine ⟨by rw [e1]; omega, .inr ?_⟩
    rw [e1]
    have g := f_antitone P Q hQ (e - 1) 1
    rw [show e - 1 + ((1 : Nat) : Int) = e by omega] at g
    omega
/-- one place on. -/
theorem RatAt.step {P Q : Nat} {e : Int} (h : RatAt P Q e) (hQ : 0 < Q) (hbig : 9007199254740992 ≤ fAt P Q (max e (-1074))) : RatAt P Q (max e (-1074) + 1) ∧ fAt P Q (max (max e (-1074) + 1) (-1074)) < fAt P Q (max e (-1074)) := by
  obtain ⟨x, hx⟩ : ∃ x, max e (-1074) = x := ⟨_, rfl⟩
  have hl := h.lt
  rw [hx] at hbig hl ⊢
  have e1 : max (x + 1) (-1074) = x + 1 := by omega
  have g := f_antitone P Q hQ x 1
  rw [show x + ((1 : Nat) : Int) = x + 1 by omega] at g
  refine ⟨⟨by rw [e1]; omega, .inr (by rw [e1, show x + 1 - 1 = x by omega]; exact hbig)⟩, by rw [e1]; omega⟩
theorem RatAt.place {P Q : Nat} {e : Int} (h : RatAt P Q e) (hQ : 0 < Q) (hs : fAt P Q (max e (-1074)) < 9007199254740992) : Place P Q (max e (-1074)) := by
  obtain ⟨x, hx⟩ : ∃ x, max e (-1074) = x := ⟨_, rfl⟩
  have hf := h.full
  rw [hx] at hs hf ⊢
  refine ⟨by omega, hs, ?_⟩
  rcases hf with hf | hf
  · exact .inr hf
  · left
    have := (f_next P Q hQ (x - 1) 4503599627370496).2 hf
    rwa [show x - 1 + 1 = x by omega] at this

/-- its word, infinity from a place on. -/
def ratWord (n : Nat) (e : Int) : Nat := min (wordOf n e) 9218868437227405312
theorem nAt_le {P Q : Nat} {e : Int} (h : Place P Q e) : nAt P Q e ≤ 9007199254740992 ∧ (4503599627370496 ≤ nAt P Q e ∨ e = -1074) := by
  have h1 := h.lt
  have h2 := h.full
  have h3 : nAt P Q e = fAt P Q e ∨ nAt P Q e = fAt P Q e + 1 := by unfold nAt; split <;> omega
  omega
theorem ratWord_fin {n : Nat} {e : Int} (h : n ≤ 9007199254740992) (he : -1074 ≤ e) (h1 : e ≤ 971) : ratWord n e = wordOf n e := by
  unfold ratWord wordOf; omega
theorem ratWord_inf {n : Nat} {e : Int} (h : 4503599627370496 ≤ n ∨ e = -1074) (h1 : 971 < e) : ratWord n e = 9218868437227405312 := by
  unfold ratWord wordOf; omega
theorem ratWord_same {n' : Nat} {e' : Int} {n : Nat} {e : Int} (hp : Parts n e) (h0 : n' ≤ 9007199254740992) (h1 : 4503599627370496 ≤ n' ∨ e' = -1074) (he : -1074 ≤ e') : ratWord n' e' = wordOf n e ↔ sameNum n' e' n e := by
  have hw := word_lt hp
  obtain ⟨x1, x2, x3, x4, x5⟩ := hp
  have hr : ratWord n' e' = wordOf n e ↔ wordOf n' e' = wordOf n e := by unfold ratWord; omega
  rw [hr]
  unfold wordOf sameNum
  constructor
  · intro h
    by_cases h2 : n' = 9007199254740992
    · omega
    · omega
  · rintro (⟨rfl, rfl⟩ | ⟨rfl, rfl, rfl⟩)
    · rfl
    · omega
end Go.Proofs.YtdijkobiffhgcaaGreatDoor.Nu
