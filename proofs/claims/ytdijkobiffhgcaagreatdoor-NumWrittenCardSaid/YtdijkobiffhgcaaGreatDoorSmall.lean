/-
  The reference's Small: by a small number. Conditions: at most 400000 digits; the divisor from 1 to 65535.
-/
import Derived.Test.YtdijkobiffhgcaaGreatDoorMulW
namespace Go.Proofs.YtdijkobiffhgcaaGreatDoor.Nu
open Go.RowKit Go.Lib

structure SmallAt (a out : List Nat) (d k left : Nat) : Prop where
  len : out.length = a.length
  dig : ∀ x ∈ out, x < 65536
  lt : left < d
  rest : ∀ j, j < k → out.getD j 0 = 0
  eq : d * val out + 65536 ^ k * left + val (a.take k) = val a

theorem SmallAt.start (a : List Nat) (d : Nat) (hd : 0 < d) : SmallAt a (List.replicate a.length 0) d a.length 0 := by
  refine ⟨by simp, fun x hx => by rw [List.mem_replicate] at hx; omega, hd, fun j h => ?_, ?_⟩
  · simp [List.getD, h]
  · have := val_zeros [] a.length
    rw [List.nil_append] at this
    rw [this, List.take_length]; simp [val]
theorem SmallAt.step {a out : List Nat} {d k left : Nat} (h : SmallAt a out d (k + 1) left) (hk : k < a.length) (ha : ∀ x ∈ a, x < 65536) (x : Nat) (hx : x = left * 65536 + a.getD k 0) :
    x / d < 65536 ∧ SmallAt a (out.set k (x / d)) d k (x % d) := by
  have hd : 0 < d := Nat.lt_of_le_of_lt (Nat.zero_le _) h.lt
  have hl := h.len
  have hak := getD_lt a ha k
  have hq : x / d < 65536 := by
    apply (Nat.div_lt_iff_lt_mul hd).2
    have := Nat.mul_le_mul_left 65536 h.lt
    omega
  refine ⟨hq, by simp [hl], dig_set _ _ _ h.dig hq, Nat.mod_lt _ hd, fun j hj => ?_, ?_⟩
  · rw [getD_set_ne _ _ _ _ (by omega)]
    exact h.rest j (by omega)
  · have s := val_set out k (x / d) (by omega)
    have h0 := h.rest k (by omega)
    rw [h0, Nat.mul_zero, Nat.add_zero] at s
    have e := h.eq
    rw [val_take a k hk, Nat.pow_succ] at e
    rw [s, ← e, Nat.mul_add]
    obtain ⟨p, hp⟩ : ∃ p, 65536 ^ k = p := ⟨_, rfl⟩
    rw [hp]
    have q := congrArg (p * ·) (show d * (x / d) + x % d = left * 65536 + a.getD k 0 by rw [← hx]; exact Nat.div_add_mod x d)
    simp only [Nat.mul_add] at q
    have r1 : d * (p * (x / d)) = p * (d * (x / d)) := by ac_rfl
    have r2 : p * 65536 * left = p * (left * 65536) := by ac_rfl
    rw [r1, r2]
    omega
theorem SmallAt.done {a out : List Nat} {d left : Nat} (h : SmallAt a out d 0 left) : val out = val a / d ∧ left = val a % d := by
  have hd : 0 < d := Nat.lt_of_le_of_lt (Nat.zero_le _) h.lt
  have e : d * val out + left = val a := by have := h.eq; simpa [val] using this
  have hl := h.lt
  constructor
  · rw [← e, Nat.mul_comm, Nat.mul_add_div hd |> fun _ => Nat.add_comm _ _, Nat.add_mul_div_right _ _ hd, Nat.div_eq_of_lt hl]; omega
  · rw [← e, Nat.mul_add_mod, Nat.mod_eq_of_lt hl]
end Go.Proofs.YtdijkobiffhgcaaGreatDoor.Nu
