/-
  The reference's Mul: the plain part: one product of digits at a time. Plain: no program in sight.
-/
import Derived.Test.YtdijkobiffhgcaaGreatDoorSub
namespace Go.Proofs.YtdijkobiffhgcaaGreatDoor.Nu

theorem val_set (l : List Nat) (j d : Nat) (h : j < l.length) : val (l.set j d) + 65536 ^ j * l.getD j 0 = val l + 65536 ^ j * d := by
  induction l generalizing j with
  | nil => simp at h
  | cons x r ih =>
    match j with
    | 0 => show d + 65536 * val r + 65536 ^ 0 * x = x + 65536 * val r + 65536 ^ 0 * d; simp; omega
    | j + 1 =>
      have := ih j (by simpa using h)
      show x + 65536 * val (r.set j d) + 65536 ^ (j + 1) * r.getD j 0 = x + 65536 * val r + 65536 ^ (j + 1) * d
      rw [Nat.pow_succ]
      have e1 : 65536 ^ j * 65536 * r.getD j 0 = 65536 * (65536 ^ j * r.getD j 0) := by ac_rfl
      have e2 : 65536 ^ j * 65536 * d = 65536 * (65536 ^ j * d) := by ac_rfl
      rw [e1, e2]
      omega
theorem dig_set (l : List Nat) (j d : Nat) (h : ∀ x ∈ l, x < 65536) (hd : d < 65536) : ∀ x ∈ l.set j d, x < 65536 := by
  intro x hx
  rcases List.mem_or_eq_of_mem_set hx with h1 | h1
  · exact h x h1
  · omega
theorem val_take (b : List Nat) (k : Nat) (h : k < b.length) : val (b.take (k + 1)) = val (b.take k) + 65536 ^ k * b.getD k 0 := by
  have : b.take (k + 1) = b.take k ++ [b.getD k 0] := by
    rw [List.take_add_one]
    simp [List.getD, List.getElem?_eq_getElem h]
  rw [this, val_append, List.length_take, Nat.min_eq_left (by omega)]
  simp [val]

/-- the rows of a up to i are done, and k digits of the row i. -/
structure MulAt (a b out : List Nat) (i k c : Nat) : Prop where
  len : out.length = a.length + b.length
  dig : ∀ d ∈ out, d < 65536
  carry : c < 65536
  rest : ∀ j, i + b.length ≤ j → j < out.length → out.getD j 0 = 0
  eq : val out + 65536 ^ (i + k) * c = val (a.take i) * val b + 65536 ^ i * (a.getD i 0 * val (b.take k))

theorem getD_set_ne (l : List Nat) (j m d : Nat) (h : j ≠ m) : (l.set j d).getD m 0 = l.getD m 0 := by
  simp [List.getD, h]

theorem MulAt.step {a b out : List Nat} {i k c : Nat} (h : MulAt a b out i k c) (hi : i < a.length) (hk : k < b.length) (x : Nat) (hx : x = out.getD (i + k) 0 + a.getD i 0 * b.getD k 0 + c) (hlt : x / 65536 < 65536) :
    MulAt a b (out.set (i + k) (x % 65536)) i (k + 1) (x / 65536) := by
  have hl := h.len
  refine ⟨by simp [hl], dig_set _ _ _ h.dig (by omega), hlt, fun j h1 h2 => ?_, ?_⟩
  · rw [getD_set_ne _ _ _ _ (by omega)]
    exact h.rest j h1 (by simpa using h2)
  · have s := val_set out (i + k) (x % 65536) (by omega)
    have e := h.eq
    rw [val_take b k hk, Nat.mul_add, Nat.mul_add]
    have p1 : 65536 ^ (i + (k + 1)) * (x / 65536) = 65536 ^ (i + k) * (65536 * (x / 65536)) := by
      rw [show i + (k + 1) = i + k + 1 by omega, Nat.pow_succ]; ac_rfl
    have p2 : 65536 ^ i * (a.getD i 0 * (65536 ^ k * b.getD k 0)) = 65536 ^ (i + k) * (a.getD i 0 * b.getD k 0) := by
      rw [Nat.pow_add]; ac_rfl
    rw [p1, p2]
    obtain ⟨p, hp⟩ : ∃ p, 65536 ^ (i + k) = p := ⟨_, rfl⟩
    rw [hp] at s e ⊢
    obtain ⟨m, hm⟩ : ∃ m, a.getD i 0 * b.getD k 0 = m := ⟨_, rfl⟩
    rw [hm] at hx ⊢
    have q := congrArg (p * ·) (show 65536 * (x / 65536) + x % 65536 = out.getD (i + k) 0 + m + c by omega)
    simp only [Nat.mul_add] at q
    omega
/-- the row is done: its carry is put behind it. -/
theorem MulAt.row {a b out : List Nat} {i c : Nat} (h : MulAt a b out i b.length c) (hi : i < a.length) :
    out.getD (i + b.length) 0 + c < 65536 ∧ MulAt a b (out.set (i + b.length) (out.getD (i + b.length) 0 + c)) (i + 1) 0 0 := by
  have hl := h.len
  have h0 := h.rest (i + b.length) (Nat.le_refl _) (by omega)
  have hc := h.carry
  rw [h0, Nat.zero_add]
  refine ⟨hc, by simp [hl], dig_set _ _ _ h.dig hc, by omega, fun j h1 h2 => ?_, ?_⟩
  · rw [getD_set_ne _ _ _ _ (by omega)]
    exact h.rest j (by omega) (by simpa using h2)
  · have s := val_set out (i + b.length) c (by omega)
    have e := h.eq
    rw [h0, Nat.mul_zero, Nat.add_zero] at s
    rw [s, e, val_take a i hi, Nat.add_mul, List.take_length]
    simp [val]
    ac_rfl
theorem MulAt.start (a b : List Nat) : MulAt a b (List.replicate (a.length + b.length) 0) 0 0 0 := by
  refine ⟨by simp, fun d hd => by rw [List.mem_replicate] at hd; omega, by omega, fun j _ h2 => ?_, ?_⟩
  · simp at h2
    simp [List.getD, h2]
  · have := val_zeros [] (a.length + b.length)
    rw [List.nil_append] at this
    rw [this]; simp [val]
theorem MulAt.done {a b out : List Nat} {i : Nat} (h : MulAt a b out i 0 0) (hi : i = a.length) : val out = val a * val b := by
  have := h.eq
  rw [hi, List.take_length] at this
  simpa [val] using this
end Go.Proofs.YtdijkobiffhgcaaGreatDoor.Nu
