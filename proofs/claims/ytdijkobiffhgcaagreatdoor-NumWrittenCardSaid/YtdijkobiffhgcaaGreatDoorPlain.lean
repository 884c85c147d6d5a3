/-
  The plain laws: gaps, scales, the shortest digits, the point, decimal digits. No program in sight.
-/
import Derived.Test.YtdijkobiffhgcaaGreatDoorCerts
import GoSem.PinnedTables
namespace Go.Proofs.YtdijkobiffhgcaaGreatDoor.Nu

theorem neighbours (P Q a b c d y h Y : Int) (det : c * b = a * d + 1) (hα : 0 ≤ b * P - a * Q) (hβ : 0 ≤ c * Q - d * P) (hY : Y < b + d) (hb : 0 < b) (hd : 0 < d) (hy0 : 0 < y) (hy : y ≤ Y) :
    y * P - h * Q = 0 ∨ (0 < b * P - a * Q ∧ b * P - a * Q ≤ (y * P - h * Q).natAbs) ∨ (0 < c * Q - d * P ∧ c * Q - d * P ≤ (y * P - h * Q).natAbs) := by
  obtain ⟨i, hi⟩ : ∃ i, c * y - d * h = i := ⟨_, rfl⟩
  obtain ⟨j, hj⟩ : ∃ j, b * h - a * y = j := ⟨_, rfl⟩
  have ey : y = i * b + j * d := by
    have : y * (c * b - a * d) = (c * y - d * h) * b + (b * h - a * y) * d := by
      simp only [Int.sub_mul, Int.mul_sub]
      have e1 : y * (c * b) = c * y * b := by rw [← Int.mul_assoc, Int.mul_comm y c]
      have e2 : y * (a * d) = a * y * d := by rw [← Int.mul_assoc, Int.mul_comm y a]
      have e3 : d * h * b = b * h * d := by rw [Int.mul_comm d h, Int.mul_comm b h, Int.mul_assoc, Int.mul_assoc, Int.mul_comm d b]
      omega
    rw [hi, hj] at this
    rw [← this, det]
    have : a * d + 1 - a * d = 1 := by omega
    rw [this, Int.mul_one]
  have ev : y * P - h * Q = i * (b * P - a * Q) - j * (c * Q - d * P) := by
    have eh : h = i * a + j * c := by
      have : h * (c * b - a * d) = (c * y - d * h) * a + (b * h - a * y) * c := by
        simp only [Int.sub_mul, Int.mul_sub]
        have e1 : h * (c * b) = b * h * c := by rw [Int.mul_comm c b, ← Int.mul_assoc, Int.mul_comm h b]
        have e2 : h * (a * d) = d * h * a := by rw [Int.mul_comm a d, ← Int.mul_assoc, Int.mul_comm h d]
        have e3 : c * y * a = a * y * c := by rw [Int.mul_comm c y, Int.mul_comm a y, Int.mul_assoc, Int.mul_assoc, Int.mul_comm c a]
        omega
      rw [hi, hj] at this
      rw [← this, det]
      have : a * d + 1 - a * d = 1 := by omega
      rw [this, Int.mul_one]
    rw [ey, eh]
    simp only [Int.add_mul, Int.mul_sub, Int.mul_assoc]
    omega
  rw [ev]
  obtain ⟨α, hα'⟩ : ∃ α, b * P - a * Q = α := ⟨_, rfl⟩
  obtain ⟨β, hβ'⟩ : ∃ β, c * Q - d * P = β := ⟨_, rfl⟩
  rw [hα'] at hα ⊢
  rw [hβ'] at hβ ⊢
  clear ev hα' hβ'
  have ib1 : 1 ≤ i → b ≤ i * b := fun h => by have := Int.mul_le_mul_of_nonneg_right h (Int.le_of_lt hb); rwa [Int.one_mul] at this
  have jd1 : 1 ≤ j → d ≤ j * d := fun h => by have := Int.mul_le_mul_of_nonneg_right h (Int.le_of_lt hd); rwa [Int.one_mul] at this
  have ib0 : i ≤ 0 → i * b ≤ 0 := fun h => by have := Int.mul_le_mul_of_nonneg_right h (Int.le_of_lt hb); rwa [Int.zero_mul] at this
  have jd0 : j ≤ 0 → j * d ≤ 0 := fun h => by have := Int.mul_le_mul_of_nonneg_right h (Int.le_of_lt hd); rwa [Int.zero_mul] at this
  have ia1 : 1 ≤ i → α ≤ i * α := fun h => by have := Int.mul_le_mul_of_nonneg_right h hα; rwa [Int.one_mul] at this
  have jb1 : 1 ≤ j → β ≤ j * β := fun h => by have := Int.mul_le_mul_of_nonneg_right h hβ; rwa [Int.one_mul] at this
  have ia0 : i ≤ 0 → i * α ≤ 0 := fun h => by have := Int.mul_le_mul_of_nonneg_right h hα; rwa [Int.zero_mul] at this
  have jb0 : j ≤ 0 → j * β ≤ 0 := fun h => by have := Int.mul_le_mul_of_nonneg_right h hβ; rwa [Int.zero_mul] at this
  have ia2 : i ≤ -1 → i * α ≤ -α := fun h => by have := Int.mul_le_mul_of_nonneg_right h hα; rw [Int.neg_mul, Int.one_mul] at this; exact this
  have jb2 : j ≤ -1 → j * β ≤ -β := fun h => by have := Int.mul_le_mul_of_nonneg_right h hβ; rw [Int.neg_mul, Int.one_mul] at this; exact this
  have za : α = 0 → i * α = 0 := fun h => by rw [h, Int.mul_zero]
  have zb : β = 0 → j * β = 0 := fun h => by rw [h, Int.mul_zero]
  have z3 : i = 0 → i * α = 0 := fun h => by rw [h, Int.zero_mul]
  have z4 : j = 0 → j * β = 0 := fun h => by rw [h, Int.zero_mul]
  omega

/-- THE GAP. -/
theorem gap (e : Int) (h0 : -1074 ≤ e) (h1 : e ≤ 971) (y h : Nat) (hy0 : 0 < y) (hy : y ≤ 72057594037927936) :
    y * num e (-lp2 e) = h * den e (-lp2 e) ∨ (h * den e (-lp2 e) < y * num e (-lp2 e) ∧ den e (-lp2 e) ≤ (y * num e (-lp2 e) - h * den e (-lp2 e)) * 2 ^ 68) ∨
      (y * num e (-lp2 e) < h * den e (-lp2 e) ∧ den e (-lp2 e) ≤ (h * den e (-lp2 e) - y * num e (-lp2 e)) * 2 ^ 68) := by
  obtain ⟨b, d, hok⟩ := ok_cert e h0 h1
  unfold okAt at hok
  obtain ⟨P, hP⟩ : ∃ P, num e (-lp2 e) = P := ⟨_, rfl⟩
  obtain ⟨Q, hQ⟩ : ∃ Q, den e (-lp2 e) = Q := ⟨_, rfl⟩
  rw [hP, hQ] at hok ⊢
  obtain ⟨a, ha⟩ : ∃ a, b * P / Q = a := ⟨_, rfl⟩
  obtain ⟨c, hc⟩ : ∃ c, d * P / Q + 1 = c := ⟨_, rfl⟩
  simp only [ha, hc, Bool.and_eq_true, Bool.or_eq_true, beq_iff_eq, Nat.blt_eq, Nat.ble_eq] at hok
  obtain ⟨⟨⟨⟨⟨det, hY⟩, hb⟩, hd⟩, hα⟩, hβ⟩ := hok
  have hQ0 : 0 < Q := by rw [← hQ]; unfold den; exact Nat.mul_pos (Nat.pow_pos (by omega)) (Nat.pow_pos (by omega))
  have l1 : a * Q ≤ b * P := by rw [← ha]; exact Nat.div_mul_le_self _ _
  have l2 : d * P ≤ c * Q := by
    rw [← hc]
    have := Nat.lt_div_mul_add (a := d * P) hQ0
    rw [Nat.add_mul, Nat.one_mul]
    omega
  have k1 : (0 : Int) ≤ (b : Int) * P - a * Q := by
    have : ((a * Q : Nat) : Int) ≤ ((b * P : Nat) : Int) := by exact_mod_cast l1
    simp only [Int.natCast_mul] at this
    omega
  have k2 : (0 : Int) ≤ (c : Int) * Q - d * P := by
    have : ((d * P : Nat) : Int) ≤ ((c * Q : Nat) : Int) := by exact_mod_cast l2
    simp only [Int.natCast_mul] at this
    omega
  have key := neighbours (P : Int) Q a b c d y h 72057594037927936 (by exact_mod_cast det) k1 k2 (by omega) (by omega) (by omega) (by omega) (by omega)
  simp only [← Int.natCast_mul] at key
  obtain ⟨u, hu⟩ : ∃ u, y * P = u := ⟨_, rfl⟩
  obtain ⟨v, hv⟩ : ∃ v, h * Q = v := ⟨_, rfl⟩
  rw [hu, hv] at key ⊢
  obtain ⟨s, hs⟩ : ∃ s, b * P = s := ⟨_, rfl⟩
  obtain ⟨t, ht⟩ : ∃ t, a * Q = t := ⟨_, rfl⟩
  obtain ⟨s', hs'⟩ : ∃ s, c * Q = s := ⟨_, rfl⟩
  obtain ⟨t', ht'⟩ : ∃ t, d * P = t := ⟨_, rfl⟩
  rw [hs, ht, hs', ht'] at key
  rw [hs, ht] at hα l1
  rw [hs', ht'] at hβ l2
  clear hs ht hs' ht' hu hv det ha hc
  omega
end Go.Proofs.YtdijkobiffhgcaaGreatDoor.Nu

namespace Go.Proofs.YtdijkobiffhgcaaGreatDoor.Nu

def lp10 (p : Int) : Int := p * 108853 / 32768

/-- rows of powers of ten, as told. -/
def rowOk (p : Int) (x : Nat × Nat) : Bool :=
  let k := 127 - lp10 p
  let A := 10 ^ p.toNat * 2 ^ k.toNat
  let B := 10 ^ (-p).toNat * 2 ^ (-k).toNat
  let pm := x.1 * 18446744073709551616 - x.2
  Nat.blt x.2 18446744073709551616 && Nat.blt x.1 18446744073709551616 && Nat.blt 0 x.1 && Nat.blt ((pm - 1) * B) A && Nat.ble A (pm * B)

def rowsOk : Int → List (Nat × Nat) → Bool
  | _, [] => true
  | p, x :: r => rowOk p x && rowsOk (p + 1) r

theorem rows_ok : rowsOk (-348) Go.Pinned.pow10Rows = true := by kernel_rfl
theorem rows_length : Go.Pinned.pow10Rows.length = 696 := by kernel_rfl

theorem rowsOk_get : ∀ (l : List (Nat × Nat)) (p : Int), rowsOk p l = true → ∀ i, i < l.length → rowOk (p + i) (l.getD i (0, 0)) = true
  | [], _, _, i, hi => by simp at hi
  | x :: r, p, h, i, hi => by
    simp only [rowsOk, Bool.and_eq_true] at h
    match i with
    | 0 => simpa using h.1
    | i + 1 =>
      have := rowsOk_get r (p + 1) h.2 i (by simpa using hi)
      rw [show p + ((i + 1 : Nat) : Int) = p + 1 + i by omega]
      simpa using this

def uscaleN (x hi0 lo0 s : Nat) : Nat :=
  let hi := x * hi0 / 18446744073709551616
  let mid := x * hi0 % 18446744073709551616
  if hi / 2 ^ s * 2 ^ s ≠ hi then hi / 2 ^ s ||| 1 else
  let mid2 := x * lo0 / 18446744073709551616
  let hi' := if mid < mid2 then hi - 1 else hi
  hi' / 2 ^ s ||| (if (mid + 18446744073709551616 - mid2) % 18446744073709551616 > 1 then 1 else 0)

/-- the unrounded number u stands for q and whether anything is left over. -/
def unr (q : Nat) (left : Bool) : Nat := q ||| left.toNat

/-- the abstract law: X = x*A; G = 2^(128+s). -/
theorem uscale_law (x hi0 lo0 s A B : Nat) (hx0 : 0 < x) (hx : x < 18446744073709551616) (hhi : 0 < hi0) (hlo : lo0 < 18446744073709551616) (hB : 0 < B)
    (h1 : (hi0 * 18446744073709551616 - lo0 - 1) * B < A) (h2 : A ≤ (hi0 * 18446744073709551616 - lo0) * B)
    (gap : ∀ h, x * A = h * (2 ^ s * 340282366920938463463374607431768211456 * B) ∨ (h * (2 ^ s * 340282366920938463463374607431768211456 * B) < x * A ∧ 36893488147419103232 * B ≤ x * A - h * (2 ^ s * 340282366920938463463374607431768211456 * B)) ∨
      (x * A < h * (2 ^ s * 340282366920938463463374607431768211456 * B) ∧ 36893488147419103232 * B ≤ h * (2 ^ s * 340282366920938463463374607431768211456 * B) - x * A)) :
    uscaleN x hi0 lo0 s = unr (x * A / (2 ^ s * 340282366920938463463374607431768211456 * B)) (x * A % (2 ^ s * 340282366920938463463374607431768211456 * B) != 0) := by
  obtain ⟨K, hK⟩ : ∃ K, 2 ^ s = K := ⟨_, rfl⟩
  have hK0 : 0 < K := by rw [← hK]; exact Nat.pow_pos (by omega)
  unfold uscaleN
  rw [hK] at gap ⊢
  clear hK
  obtain ⟨hi, hhi'⟩ : ∃ v, x * hi0 / 18446744073709551616 = v := ⟨_, rfl⟩
  obtain ⟨mid, hmid⟩ : ∃ v, x * hi0 % 18446744073709551616 = v := ⟨_, rfl⟩
  obtain ⟨mid2, hmid2⟩ : ∃ v, x * lo0 / 18446744073709551616 = v := ⟨_, rfl⟩
  have t1 : x * hi0 = hi * 18446744073709551616 + mid := by omega
  have hm : mid < 18446744073709551616 := by omega
  obtain ⟨low2, hlow2⟩ : ∃ v, x * lo0 % 18446744073709551616 = v := ⟨_, rfl⟩
  have t2 : x * lo0 = mid2 * 18446744073709551616 + low2 := by omega
  have hl2 : low2 < 18446744073709551616 := by omega
  have hm2 : mid2 ≤ 18446744073709551614 := by
    have : x * lo0 ≤ 18446744073709551615 * 18446744073709551615 := Nat.mul_le_mul (by omega) (by omega)
    omega
  simp only [hhi', hmid, hmid2]
  clear hhi' hmid hmid2 hlow2
  -- F = x * pm
  obtain ⟨pm, hpm⟩ : ∃ v, hi0 * 18446744073709551616 - lo0 = v := ⟨_, rfl⟩
  have hpm0 : 0 < pm := by omega
  rw [hpm] at h1 h2
  have hF : x * pm + (mid2 * 18446744073709551616 + low2) = hi * 18446744073709551616 * 18446744073709551616 + mid * 18446744073709551616 := by
    have : x * (pm + lo0) = x * (hi0 * 18446744073709551616) := by congr 1; omega
    rw [Nat.mul_add, t2, ← Nat.mul_assoc, t1, Nat.add_mul] at this
    exact this
  obtain ⟨F, hF'⟩ : ∃ F, x * pm = F := ⟨_, rfl⟩
  have hFx : x ≤ F := by rw [← hF']; exact Nat.le_mul_of_pos_right _ hpm0
  rw [hF'] at hF
  -- X between
  have u1 : x * A ≤ F * B := by
    rw [← hF', Nat.mul_assoc]; exact Nat.mul_le_mul_left _ h2
  have u2 : (F - 18446744073709551616) * B < x * A := by
    have a1 : x * ((pm - 1) * B) < x * A := Nat.mul_lt_mul_of_pos_left h1 hx0
    have a2 : F - 18446744073709551616 ≤ x * (pm - 1) := by
      have : x * pm = x * (pm - 1) + x := by
        have e : pm = pm - 1 + 1 := by omega
        conv => lhs; rw [e, Nat.mul_add, Nat.mul_one]
      omega
    have a3 := Nat.mul_le_mul_right B a2
    rw [Nat.mul_assoc] at a3
    omega
  obtain ⟨X, hX⟩ : ∃ X, x * A = X := ⟨_, rfl⟩
  rw [hX] at u1 u2 gap ⊢
  obtain ⟨h, hh⟩ : ∃ v, hi / K = v := ⟨_, rfl⟩
  have hdm := Nat.div_add_mod hi K
  have hmod := Nat.mod_lt hi hK0
  rw [hh, Nat.mul_comm K h] at hdm
  obtain ⟨r, hr⟩ : ∃ v, hi % K = v := ⟨_, rfl⟩
  rw [hr] at hdm hmod
  simp only [hh]
  clear t1 t2 hX hF' hr h1 h2
  obtain ⟨G, hG⟩ : ∃ G, K * 340282366920938463463374607431768211456 * B = G := ⟨_, rfl⟩
  have hG0 : 0 < G := by rw [← hG]; exact Nat.mul_pos (Nat.mul_pos hK0 (by omega)) hB
  have gG : ∀ m, m * G = m * K * 340282366920938463463374607431768211456 * B := fun m => by rw [← hG]; simp only [Nat.mul_assoc]
  rw [hG] at gap ⊢
  have floorOf : ∀ m, m * G ≤ X → X < (m + 1) * G → X / G = m := fun m a b => by
    apply Nat.le_antisymm
    · exact Nat.lt_succ_iff.1 ((Nat.div_lt_iff_lt_mul hG0).2 b)
    · exact (Nat.le_div_iff_mul_le hG0).2 a
  have leftOf : ∀ m, m * G < X → X < (m + 1) * G → X / G = m ∧ (X % G != 0) = true := fun m a b => by
    have e := floorOf m (Nat.le_of_lt a) b
    refine ⟨e, ?_⟩
    have := Nat.div_add_mod X G
    rw [e, Nat.mul_comm] at this
    have : X % G ≠ 0 := by omega
    simpa using this
  -- from a bound on F to a bound on X
  have above : ∀ m, m * K * 340282366920938463463374607431768211456 ≤ F - 18446744073709551616 → m * G < X := fun m a => by
    rw [gG]
    exact Nat.lt_of_le_of_lt (Nat.mul_le_mul_right B a) u2
  have below : ∀ m, F < m * K * 340282366920938463463374607431768211456 → X < m * G := fun m a => by
    rw [gG]
    exact Nat.lt_of_le_of_lt u1 (Nat.mul_lt_mul_of_pos_right a hB)
  have K1 : (h + 1) * K = h * K + K := by rw [Nat.add_mul, Nat.one_mul]
  split
  · rename_i hne
    have r1 : r ≠ 0 := fun h0 => hne (by omega)
    obtain ⟨e1, e2⟩ := leftOf h (above h (by omega)) (below (h + 1) (by rw [K1]; omega))
    rw [e1, e2]
    rfl
  · rename_i heq
    have r0 : h * K = hi := by
      by_cases hh : h * K = hi
      · exact hh
      · exact absurd hh heq
    obtain rfl : r = 0 := by omega
    split
    · rename_i hlt
      have hc : (mid + 18446744073709551616 - mid2) % 18446744073709551616 > 1 := by omega
      rw [if_pos hc]
      have hh1 : 1 ≤ h := by
        by_cases h0 : h = 0
        · subst h0; omega
        · omega
      obtain ⟨g, rfl⟩ : ∃ g, h = g + 1 := ⟨h - 1, by omega⟩
      have K2 : (g + 1) * K = g * K + K := by rw [Nat.add_mul, Nat.one_mul]
      obtain ⟨e1, e2⟩ := leftOf g (above g (by omega)) (below (g + 1) (by omega))
      have e3 : (hi - 1) / K = g := by
        apply Nat.le_antisymm
        · exact Nat.lt_succ_iff.1 ((Nat.div_lt_iff_lt_mul hK0).2 (by show hi - 1 < (g + 1) * K; omega))
        · exact (Nat.le_div_iff_mul_le hK0).2 (by omega)
      rw [e1, e2, e3]
      rfl
    · rename_i hge
      rw [hh]
      by_cases hc : mid - mid2 > 1
      · rw [if_pos (by omega)]
        obtain ⟨e1, e2⟩ := leftOf h (above h (by omega)) (below (h + 1) (by rw [K1]; omega))
        rw [e1, e2]
        rfl
      · rw [if_neg (by omega)]
        -- near a whole number: it is one
        have n1 : X < h * G + 36893488147419103232 * B := by
          have : F < h * K * 340282366920938463463374607431768211456 + 36893488147419103232 := by omega
          have := Nat.mul_lt_mul_of_pos_right this hB
          rw [Nat.add_mul, ← gG] at this
          omega
        have n2 : h * G < X + 36893488147419103232 * B := by
          have : h * K * 340282366920938463463374607431768211456 ≤ (F - 18446744073709551616) + 36893488147419103232 := by omega
          have := Nat.mul_le_mul_right B this
          rw [Nat.add_mul, ← gG] at this
          omega
        have hXG : X = h * G := by
          rcases gap h with g | g | g
          · exact g
          · omega
          · omega
        rw [hXG, Nat.mul_div_cancel _ hG0, Nat.mul_mod_left]
        rfl
end Go.Proofs.YtdijkobiffhgcaaGreatDoor.Nu

namespace Go.Proofs.YtdijkobiffhgcaaGreatDoor.Nu

theorem num_pos (e p : Int) : 0 < num e p := Nat.mul_pos (Nat.pow_pos (by omega)) (Nat.pow_pos (by omega))
theorem den_pos (e p : Int) : 0 < den e p := Nat.mul_pos (Nat.pow_pos (by omega)) (Nat.pow_pos (by omega))

/-- the row of 10^p. -/
def row (p : Int) : Nat × Nat := Go.Pinned.pow10Rows.getD (p + 348).toNat (0, 0)

theorem row_ok (p : Int) (h0 : -348 ≤ p) (h1 : p ≤ 347) : rowOk p (row p) = true := by
  have := rowsOk_get _ _ rows_ok (p + 348).toNat (by rw [rows_length]; omega)
  rw [show (-348 : Int) + ((p + 348).toNat : Nat) = p by omega] at this
  exact this

theorem pow2_split (a b : Nat) (h : a = b) : 2 ^ a = 2 ^ b := by rw [h]

/-- both sides are the same powers of two and ten. -/
theorem scale_eq (e p : Int) (z s : Nat) (hz : 2 ≤ z) (hs : (s : Int) = z - (e + lp10 p + 3)) (y : Nat) :
    y * 2 ^ (z - 2) * (10 ^ p.toNat * 2 ^ (127 - lp10 p).toNat) * den e p = y * num e p * (2 ^ s * 340282366920938463463374607431768211456 * (10 ^ (-p).toNat * 2 ^ (-(127 - lp10 p)).toNat)) := by
  unfold num den
  have h128 : (340282366920938463463374607431768211456 : Nat) = 2 ^ 128 := by decide
  rw [h128]
  have key : 2 ^ (z - 2) * 2 ^ (127 - lp10 p).toNat * 2 ^ (-e).toNat = 2 ^ e.toNat * 2 ^ s * 2 ^ 128 * 2 ^ (-(127 - lp10 p)).toNat := by
    simp only [← Nat.pow_add]
    exact pow2_split _ _ (by omega)
  obtain ⟨a, ha⟩ : ∃ a, 2 ^ (z - 2) = a := ⟨_, rfl⟩
  obtain ⟨b, hb⟩ : ∃ a, 2 ^ (127 - lp10 p).toNat = a := ⟨_, rfl⟩
  obtain ⟨c, hc⟩ : ∃ a, 2 ^ (-e).toNat = a := ⟨_, rfl⟩
  obtain ⟨d, hd⟩ : ∃ a, 2 ^ e.toNat = a := ⟨_, rfl⟩
  obtain ⟨f, hf⟩ : ∃ a, 2 ^ s = a := ⟨_, rfl⟩
  obtain ⟨g, hg⟩ : ∃ a, 2 ^ 128 = a := ⟨_, rfl⟩
  obtain ⟨k, hk⟩ : ∃ a, 2 ^ (-(127 - lp10 p)).toNat = a := ⟨_, rfl⟩
  obtain ⟨t, ht⟩ : ∃ a, 10 ^ p.toNat = a := ⟨_, rfl⟩
  obtain ⟨u, hu⟩ : ∃ a, 10 ^ (-p).toNat = a := ⟨_, rfl⟩
  rw [ha, hb, hc, hd, hf, hg, hk] at key
  rw [ha, hb, hc, hd, hf, hg, hk, ht, hu]
  calc y * a * (t * b) * (c * u) = (a * b * c) * (y * t * u) := by ac_rfl
    _ = (d * f * g * k) * (y * t * u) := by rw [key]
    _ = y * (d * t) * (f * g * (u * k)) := by ac_rfl

def lpOk (e : Int) : Bool := decide (0 ≤ e + lp10 (-lp2 e)) && decide (e + lp10 (-lp2 e) ≤ 3) && decide (-348 ≤ -lp2 e) && decide (-lp2 e ≤ 347)

theorem lp_range (e : Int) (h0 : -1074 ≤ e) (h1 : e ≤ 971) : 0 ≤ e + lp10 (-lp2 e) ∧ e + lp10 (-lp2 e) ≤ 3 ∧ -348 ≤ -lp2 e ∧ -lp2 e ≤ 347 := by
  have hall : ∀ i : Nat, i < 2046 → lpOk ((i : Int) - 1074) = true := by
    have : (List.range 2046).all (fun i : Nat => lpOk ((i : Int) - 1074)) = true := by kernel_rfl
    intro i hi
    exact List.all_eq_true.1 this i (List.mem_range.2 hi)
  have := hall (e + 1074).toNat (by omega)
  rw [show ((e + 1074).toNat : Int) - 1074 = e by omega] at this
  unfold lpOk at this
  simp only [Bool.and_eq_true, decide_eq_true_eq] at this
  omega

/-- the abstract step: a gap of y*num over den is one of X over G. -/
theorem gap_over {X den N G B : Nat} (hd : 0 < den) (hX : X * den = N * G) (hG : 10889035741470030830827987437816582766592 * B ≤ G) (h : Nat)
    (g : N = h * den ∨ (h * den < N ∧ den ≤ (N - h * den) * 2 ^ 68) ∨ (N < h * den ∧ den ≤ (h * den - N) * 2 ^ 68)) (hG0 : 0 < G) :
    X = h * G ∨ (h * G < X ∧ 36893488147419103232 * B ≤ X - h * G) ∨ (X < h * G ∧ 36893488147419103232 * B ≤ h * G - X) := by
  have e68 : (2 : Nat) ^ 68 = 295147905179352825856 := by decide
  have hr : h * G * den = h * den * G := by ac_rfl
  rcases g with g | ⟨g1, g2⟩ | ⟨g1, g2⟩
  · left
    apply Nat.eq_of_mul_eq_mul_right hd
    rw [hX, hr, g]
  · right; left
    have l1 : h * G < X := by
      apply Nat.lt_of_mul_lt_mul_right (a := den)
      rw [hX, hr]
      exact Nat.mul_lt_mul_of_pos_right g1 hG0
    refine ⟨l1, ?_⟩
    have l2 : (X - h * G) * den = (N - h * den) * G := by rw [Nat.sub_mul, Nat.sub_mul, hX, hr]
    have l3 : G ≤ (X - h * G) * 2 ^ 68 := by
      apply Nat.le_of_mul_le_mul_right (c := den) _ hd
      have := Nat.mul_le_mul_right G g2
      calc G * den = den * G := Nat.mul_comm _ _
        _ ≤ (N - h * den) * 2 ^ 68 * G := this
        _ = (N - h * den) * G * 2 ^ 68 := by ac_rfl
        _ = (X - h * G) * den * 2 ^ 68 := by rw [l2]
        _ = (X - h * G) * 2 ^ 68 * den := by ac_rfl
    omega
  · right; right
    have l1 : X < h * G := by
      apply Nat.lt_of_mul_lt_mul_right (a := den)
      rw [hX, hr]
      exact Nat.mul_lt_mul_of_pos_right g1 hG0
    refine ⟨l1, ?_⟩
    have l2 : (h * G - X) * den = (h * den - N) * G := by rw [Nat.sub_mul, Nat.sub_mul, hX, hr]
    have l3 : G ≤ (h * G - X) * 2 ^ 68 := by
      apply Nat.le_of_mul_le_mul_right (c := den) _ hd
      have := Nat.mul_le_mul_right G g2
      calc G * den = den * G := Nat.mul_comm _ _
        _ ≤ (h * den - N) * 2 ^ 68 * G := this
        _ = (h * den - N) * G * 2 ^ 68 := by ac_rfl
        _ = (h * G - X) * den * 2 ^ 68 := by rw [l2]
        _ = (h * G - X) * 2 ^ 68 * den := by ac_rfl
    omega

theorem div_over {X den N G : Nat} (hd : 0 < den) (hG : 0 < G) (hX : X * den = N * G) : X / G = N / den ∧ (X % G != 0) = (N % den != 0) := by
  have e1 : X / G = X * den / (G * den) := (Nat.mul_div_mul_right _ _ hd).symm
  have e2 : N / den = N * G / (den * G) := (Nat.mul_div_mul_right _ _ hG).symm
  refine ⟨by rw [e1, e2, hX, Nat.mul_comm G den], ?_⟩
  have m1 : X * den % (G * den) = X % G * den := Nat.mul_mod_mul_right _ _ _
  have m2 : N * G % (den * G) = N % den * G := Nat.mul_mod_mul_right _ _ _
  rw [hX, Nat.mul_comm G den, m2] at m1
  by_cases h0 : X % G = 0
  · rw [h0, Nat.zero_mul] at m1
    rcases Nat.mul_eq_zero.1 m1 with h | h
    · rw [h0, h]
    · omega
  · have : N % den ≠ 0 := by
      intro hh
      rw [hh, Nat.zero_mul] at m1
      rcases Nat.mul_eq_zero.1 m1.symm with h | h
      · exact h0 h
      · omega
    rw [(bne_iff_ne.2 h0 : (X % G != 0) = true), (bne_iff_ne.2 this : (N % den != 0) = true)]

/-- USCALE AT ITS ROW. -/
theorem uscale_row (e p : Int) (hp0 : -348 ≤ p) (hp1 : p ≤ 347) (z s y : Nat) (hz : 2 ≤ z) (hs : (s : Int) = z - (e + lp10 p + 3)) (hs5 : 5 ≤ s) (hy0 : 0 < y) (hx : y * 2 ^ (z - 2) < 18446744073709551616)
    (g : ∀ h, y * num e p = h * den e p ∨ (h * den e p < y * num e p ∧ den e p ≤ (y * num e p - h * den e p) * 2 ^ 68) ∨ (y * num e p < h * den e p ∧ den e p ≤ (h * den e p - y * num e p) * 2 ^ 68)) :
    uscaleN (y * 2 ^ (z - 2)) (row p).1 (row p).2 s = unr (y * num e p / den e p) (y * num e p % den e p != 0) := by
  have hrow := row_ok p hp0 hp1
  unfold rowOk at hrow
  simp only [Bool.and_eq_true, Nat.blt_eq, Nat.ble_eq] at hrow
  obtain ⟨⟨⟨⟨r1, r2⟩, r3⟩, r4⟩, r5⟩ := hrow
  have hB : 0 < 10 ^ (-p).toNat * 2 ^ (-(127 - lp10 p)).toNat := Nat.mul_pos (Nat.pow_pos (by omega)) (Nat.pow_pos (by omega))
  have hX := scale_eq e p z s hz hs y
  have h2s : 32 ≤ 2 ^ s := by
    have : 2 ^ 5 ≤ 2 ^ s := Nat.pow_le_pow_right (by omega) hs5
    omega
  have hG : 10889035741470030830827987437816582766592 * (10 ^ (-p).toNat * 2 ^ (-(127 - lp10 p)).toNat) ≤ 2 ^ s * 340282366920938463463374607431768211456 * (10 ^ (-p).toNat * 2 ^ (-(127 - lp10 p)).toNat) := by
    apply Nat.mul_le_mul_right
    omega
  have hG0 : 0 < 2 ^ s * 340282366920938463463374607431768211456 * (10 ^ (-p).toNat * 2 ^ (-(127 - lp10 p)).toNat) := by omega
  rw [uscale_law _ (row p).1 (row p).2 s (10 ^ p.toNat * 2 ^ (127 - lp10 p).toNat) (10 ^ (-p).toNat * 2 ^ (-(127 - lp10 p)).toNat)
    (Nat.mul_pos hy0 (Nat.pow_pos (by omega))) hx r3 r1 hB r4 r5 (fun h => gap_over (den_pos e p) hX hG h (g h) hG0)]
  obtain ⟨d1, d2⟩ := div_over (den_pos e p) hG0 hX
  rw [d1, d2]

/-- USCALE OF y QUARTERS, y at most 2^56. -/
theorem uscale_y (e : Int) (h0 : -1074 ≤ e) (h1 : e ≤ 971) (z s y : Nat) (hz : 11 ≤ z) (hs : (s : Int) = z - (e + lp10 (-lp2 e) + 3)) (hy0 : 0 < y) (hy : y ≤ 72057594037927936) (hx : y * 2 ^ (z - 2) < 18446744073709551616) :
    uscaleN (y * 2 ^ (z - 2)) (row (-lp2 e)).1 (row (-lp2 e)).2 s = unr (y * num e (-lp2 e) / den e (-lp2 e)) (y * num e (-lp2 e) % den e (-lp2 e) != 0) := by
  obtain ⟨a, b, c, d⟩ := lp_range e h0 h1
  exact uscale_row e (-lp2 e) c d z s y (by omega) hs (by omega) hy0 hx (fun h => gap e h0 h1 y h hy0 hy)
end Go.Proofs.YtdijkobiffhgcaaGreatDoor.Nu

namespace Go.Proofs.YtdijkobiffhgcaaGreatDoor.Nu

/-- d*10^(-p) lies between ylo and yhi quarters of 2^e; the ends count where n is even. -/
def inI (n : Nat) (e : Int) (ylo yhi : Nat) (p : Int) (d : Nat) : Prop :=
  if n % 2 = 1 then ylo * num e p < 4 * d * den e p ∧ 4 * d * den e p < yhi * num e p
  else ylo * num e p ≤ 4 * d * den e p ∧ 4 * d * den e p ≤ yhi * num e p

instance (n : Nat) (e : Int) (ylo yhi : Nat) (p : Int) (d : Nat) : Decidable (inI n e ylo yhi p d) := by unfold inI; infer_instance

/-- how far d*10^(-p) is from n*2^e (in parts). -/
def dist (n : Nat) (e : Int) (p : Int) (d : Nat) : Nat := (d * den e p - n * num e p) + (n * num e p - d * den e p)

structure Best (n : Nat) (e : Int) (ylo yhi : Nat) (p : Int) (d : Nat) : Prop where
  tells : inI n e ylo yhi p d
  fewest : ∀ p' d', p' < p → ¬ inI n e ylo yhi p' d'
  nearest : ∀ d', inI n e ylo yhi p d' → dist n e p d ≤ dist n e p d' ∧ (dist n e p d = dist n e p d' → d' = d ∨ (d % 2 = 0 ∧ d' % 2 = 1))

theorem Best.one {n : Nat} {e : Int} {ylo yhi : Nat} {p p' : Int} {d d' : Nat} (h : Best n e ylo yhi p d) (h' : Best n e ylo yhi p' d') : p = p' ∧ d = d' := by
  have hp : p = p' := by
    rcases Int.lt_trichotomy p p' with a | a | a
    · exact absurd h.tells (h'.fewest p d a)
    · exact a
    · exact absurd h'.tells (h.fewest p' d' a)
  subst hp
  obtain ⟨a, b⟩ := h.nearest d' h'.tells
  obtain ⟨a', b'⟩ := h'.nearest d h.tells
  have := b (Nat.le_antisymm a a')
  have := b' (Nat.le_antisymm a' a)
  exact ⟨rfl, by omega⟩

/-- one level up: ten times as many. -/
theorem level (e p : Int) (j : Nat) : num e p * den e (p - j) = 10 ^ j * num e (p - j) * den e p := by
  unfold num den
  have key : 10 ^ p.toNat * 10 ^ (-(p - j)).toNat = 10 ^ j * 10 ^ (p - j).toNat * 10 ^ (-p).toNat := by
    simp only [← Nat.pow_add]
    congr 1
    omega
  obtain ⟨a, ha⟩ : ∃ a, 10 ^ p.toNat = a := ⟨_, rfl⟩
  obtain ⟨b, hb⟩ : ∃ a, 10 ^ (-(p - j)).toNat = a := ⟨_, rfl⟩
  obtain ⟨c, hc⟩ : ∃ a, 10 ^ j = a := ⟨_, rfl⟩
  obtain ⟨d, hd⟩ : ∃ a, 10 ^ (p - j).toNat = a := ⟨_, rfl⟩
  obtain ⟨f, hf⟩ : ∃ a, 10 ^ (-p).toNat = a := ⟨_, rfl⟩
  rw [ha, hb, hc, hd, hf] at key
  rw [ha, hb, hc, hd, hf]
  calc 2 ^ e.toNat * a * (2 ^ (-e).toNat * b) = (a * b) * (2 ^ e.toNat * 2 ^ (-e).toNat) := by ac_rfl
    _ = (c * d * f) * (2 ^ e.toNat * 2 ^ (-e).toNat) := by rw [key]
    _ = c * (2 ^ e.toNat * d) * (2 ^ (-e).toNat * f) := by ac_rfl

/-- y*N ⋚ m*D at one level is y*N' ⋚ m'*D' at another, m = 10^j*m'. -/
theorem level_le (e p : Int) (j y m : Nat) : y * num e p ≤ m * 10 ^ j * den e p ↔ y * num e (p - j) ≤ m * den e (p - j) := by
  have hl := level e p j
  have d1 := den_pos e p
  have d2 := den_pos e (p - j)
  have t : 0 < 10 ^ j := Nat.pow_pos (by omega)
  have e1 : y * num e p * den e (p - j) = y * num e (p - j) * (10 ^ j * den e p) := by
    rw [Nat.mul_assoc, hl]; ac_rfl
  have e2 : m * 10 ^ j * den e p * den e (p - j) = m * den e (p - j) * (10 ^ j * den e p) := by ac_rfl
  rw [← Nat.mul_le_mul_right_iff d2, e1, e2, Nat.mul_le_mul_right_iff (Nat.mul_pos t d1)]
theorem level_ge (e p : Int) (j y m : Nat) : m * 10 ^ j * den e p ≤ y * num e p ↔ m * den e (p - j) ≤ y * num e (p - j) := by
  have hl := level e p j
  have d1 := den_pos e p
  have d2 := den_pos e (p - j)
  have t : 0 < 10 ^ j := Nat.pow_pos (by omega)
  have e1 : y * num e p * den e (p - j) = y * num e (p - j) * (10 ^ j * den e p) := by
    rw [Nat.mul_assoc, hl]; ac_rfl
  have e2 : m * 10 ^ j * den e p * den e (p - j) = m * den e (p - j) * (10 ^ j * den e p) := by ac_rfl
  rw [← Nat.mul_le_mul_right_iff d2, e1, e2, Nat.mul_le_mul_right_iff (Nat.mul_pos t d1)]

theorem inI_level (n : Nat) (e : Int) (ylo yhi : Nat) (p : Int) (j d : Nat) : inI n e ylo yhi p (d * 10 ^ j) ↔ inI n e ylo yhi (p - j) d := by
  have a := level_le e p j ylo (4 * d)
  have b := level_ge e p j yhi (4 * d)
  have a' := level_ge e p j ylo (4 * d)
  have b' := level_le e p j yhi (4 * d)
  have r : 4 * (d * 10 ^ j) = 4 * d * 10 ^ j := by rw [Nat.mul_assoc]
  unfold inI
  rw [r]
  split
  · rw [← Nat.not_le, ← Nat.not_le, ← Nat.not_le, ← Nat.not_le, a', b']
  · rw [a, b]

/-! ### the unrounded number against a whole one -/
theorem or_one (q : Nat) : q ||| 1 = q / 2 * 2 + 1 := by
  apply Nat.eq_of_testBit_eq
  intro i
  rw [Nat.testBit_or]
  match i with
  | 0 => simp [Nat.testBit_zero]
  | i + 1 =>
    rw [Nat.testBit_succ, Nat.testBit_succ, Nat.testBit_succ]
    have : (q / 2 * 2 + 1) / 2 = q / 2 := by omega
    rw [this]
    simp
theorem unr_cases (q : Nat) (l : Bool) : unr q l = if l = true ∧ q % 2 = 0 then q + 1 else q := by
  unfold unr
  cases l
  · simp
  · show q ||| 1 = _
    rw [or_one]
    by_cases h : q % 2 = 0
    · rw [if_pos ⟨rfl, h⟩]; omega
    · rw [if_neg (fun hh => h hh.2)]; omega

theorem unr_even (y N D m : Nat) (hD : 0 < D) (hm : m % 2 = 0) : (y * N ≤ m * D ↔ unr (y * N / D) (y * N % D != 0) ≤ m) ∧ (y * N < m * D ↔ unr (y * N / D) (y * N % D != 0) < m) := by
  obtain ⟨X, hX⟩ : ∃ X, y * N = X := ⟨_, rfl⟩
  rw [hX]
  rw [unr_cases]
  have hdm := Nat.div_add_mod X D
  have hmod := Nat.mod_lt X hD
  obtain ⟨q, hq⟩ : ∃ q, X / D = q := ⟨_, rfl⟩
  obtain ⟨r, hr⟩ : ∃ r, X % D = r := ⟨_, rfl⟩
  rw [hq, hr] at hdm ⊢
  rw [hr] at hmod
  have low : ∀ m, q < m → X < m * D := fun m h => by
    have := Nat.mul_le_mul_right D (show q + 1 ≤ m from h)
    rw [Nat.add_mul, Nat.one_mul, Nat.mul_comm q D] at this
    omega
  have high : ∀ m, m ≤ q → m * D ≤ X := fun m h => by
    have := Nat.mul_le_mul_right D h
    rw [Nat.mul_comm q D] at this
    omega
  have same : q = m → X = m * D + r := fun h => by
    rw [← h, Nat.mul_comm q D]; omega
  have hr0 : (r != 0) = true ↔ r ≠ 0 := bne_iff_ne
  rcases Nat.lt_trichotomy q m with h | h | h
  · have := low m h
    constructor <;> constructor <;> intro _ <;> (try split) <;> omega
  · have e1 := same h
    by_cases h0 : r = 0
    · have : ¬ ((r != 0) = true ∧ q % 2 = 0) := fun hh => (hr0.1 hh.1) h0
      rw [if_neg this]
      constructor <;> constructor <;> intro _ <;> omega
    · rw [if_pos ⟨hr0.2 h0, by omega⟩]
      constructor <;> constructor <;> intro _ <;> omega
  · have e2 := high (m + 1) h
    rw [Nat.add_mul, Nat.one_mul] at e2
    have hU : q ≤ (if (r != 0) = true ∧ q % 2 = 0 then q + 1 else q) := by split <;> omega
    obtain ⟨U, hUe⟩ : ∃ U, (if (r != 0) = true ∧ q % 2 = 0 then q + 1 else q) = U := ⟨_, rfl⟩
    rw [hUe] at hU ⊢
    constructor <;> constructor <;> intro _ <;> omega

def uAt (e p : Int) (y : Nat) : Nat := unr (y * num e p / den e p) (y * num e p % den e p != 0)

theorem uAt_le (e p : Int) (y m : Nat) (hm : m % 2 = 0) : y * num e p ≤ m * den e p ↔ uAt e p y ≤ m := (unr_even y _ _ m (den_pos e p) hm).1
theorem uAt_lt (e p : Int) (y m : Nat) (hm : m % 2 = 0) : y * num e p < m * den e p ↔ uAt e p y < m := (unr_even y _ _ m (den_pos e p) hm).2

def dminOf (n : Nat) (e p : Int) (ylo : Nat) : Nat := (uAt e p ylo + n % 2 + 3) / 4
def dmaxOf (n : Nat) (e p : Int) (yhi : Nat) : Nat := (uAt e p yhi - n % 2) / 4
def roundU (u : Nat) : Nat := (u + 1 + u / 4 % 2) / 4

/-- what tells the number, at a level: the whole numbers from dmin to dmax. -/
theorem inI_iff (n : Nat) (e : Int) (ylo yhi : Nat) (p : Int) (d : Nat) (h : 0 < yhi) : inI n e ylo yhi p d ↔ dminOf n e p ylo ≤ d ∧ d ≤ dmaxOf n e p yhi := by
  have a := uAt_le e p ylo (4 * d) (by omega)
  have a' := uAt_lt e p ylo (4 * d) (by omega)
  have b := uAt_le e p yhi (4 * d) (by omega)
  have b' := uAt_lt e p yhi (4 * d) (by omega)
  have c := uAt_lt e p yhi (2) (by omega)
  unfold inI dminOf dmaxOf
  have hU : n % 2 = 1 → d ≤ (uAt e p yhi - n % 2) / 4 → 4 * d < uAt e p yhi := by
    intro h1 h2
    by_cases h0 : uAt e p yhi = 0
    · have := (uAt_le e p yhi 0 (by omega)).2 (by omega)
      have := Nat.mul_pos h (num_pos e p)
      omega
    · omega
  split
  · rename_i ho
    constructor
    · rintro ⟨h1, h2⟩
      have h1' := a'.1 h1
      have h2' : ¬ uAt e p yhi ≤ 4 * d := fun hh => by have := b.2 hh; omega
      omega
    · rintro ⟨h1, h2⟩
      have h3 := hU ho h2
      refine ⟨a'.2 (by omega), ?_⟩
      have : ¬ yhi * num e p ≤ 4 * d * den e p := fun hh => by have := b.1 hh; omega
      omega
  · constructor
    · rintro ⟨h1, h2⟩
      have h1' := a.1 h1
      have h2' : ¬ uAt e p yhi < 4 * d := fun hh => by have := b'.2 hh; omega
      omega
    · rintro ⟨h1, h2⟩
      refine ⟨a.2 (by omega), ?_⟩
      have : ¬ yhi * num e p < 4 * d * den e p := fun hh => by have := b'.1 hh; omega
      omega

/-- the nearest whole number, of two the even one. -/
theorem roundU_near (n : Nat) (e p : Int) (d' : Nat) :
    dist n e p (roundU (uAt e p (4 * n))) ≤ dist n e p d' ∧ (dist n e p (roundU (uAt e p (4 * n))) = dist n e p d' → d' = roundU (uAt e p (4 * n)) ∨ (roundU (uAt e p (4 * n)) % 2 = 0 ∧ d' % 2 = 1)) := by
  obtain ⟨u, hu⟩ : ∃ u, uAt e p (4 * n) = u := ⟨_, rfl⟩
  have A := fun m hm => uAt_le e p (4 * n) m hm
  have B := fun m hm => uAt_lt e p (4 * n) m hm
  rw [hu] at A B ⊢
  unfold dist
  obtain ⟨D, hD⟩ : ∃ D, den e p = D := ⟨_, rfl⟩
  have hD0 : 0 < D := by rw [← hD]; exact den_pos e p
  obtain ⟨X, hX⟩ : ∃ X, n * num e p = X := ⟨_, rfl⟩
  have h4 : 4 * n * num e p = 4 * X := by rw [← hX, Nat.mul_assoc]
  rw [h4, hD] at A B
  rw [hD, hX]
  obtain ⟨f, hf⟩ : ∃ f, u / 4 = f := ⟨_, rfl⟩
  have hround : roundU u = f ∧ (u < 4 * f + 2 ∨ (u = 4 * f + 2 ∧ f % 2 = 0)) ∨ roundU u = f + 1 ∧ (u = 4 * f + 3 ∨ (u = 4 * f + 2 ∧ f % 2 = 1)) := by
    unfold roundU
    rw [hf]
    omega
  have l0 : 4 * f * D ≤ 4 * X := by
    have := B (4 * f) (by omega)
    have : ¬ (4 * X < 4 * f * D) := fun hh => by have := this.1 hh; omega
    omega
  have l1 := (B (4 * (f + 1)) (by omega)).2 (by omega)
  have l2 := A (4 * f + 2) (by omega)
  have l3 := B (4 * f + 2) (by omega)
  have x1 : 4 * f * D = 4 * (f * D) := Nat.mul_assoc _ _ _
  have x2 : 4 * (f + 1) * D = 4 * (f * D) + 4 * D := by rw [Nat.mul_add, Nat.add_mul, x1, Nat.mul_one]
  have x3 : (4 * f + 2) * D = 4 * (f * D) + 2 * D := by rw [Nat.add_mul, x1]
  have x4 : (f + 1) * D = f * D + D := by rw [Nat.add_mul, Nat.one_mul]
  rw [x3] at l2 l3
  rw [x2] at l1
  rw [x1] at l0
  have m1 : d' ≤ f → d' * D ≤ f * D := fun h => Nat.mul_le_mul_right D h
  have m2 : d' + 1 ≤ f → d' * D + D ≤ f * D := fun h => by have := Nat.mul_le_mul_right D h; rwa [Nat.add_mul, Nat.one_mul] at this
  have m3 : f + 1 ≤ d' → f * D + D ≤ d' * D := fun h => by have := Nat.mul_le_mul_right D h; rwa [Nat.add_mul, Nat.one_mul] at this
  have m4 : f + 2 ≤ d' → f * D + 2 * D ≤ d' * D := fun h => by have := Nat.mul_le_mul_right D h; rwa [Nat.add_mul] at this
  have m5 : d' = f → d' * D = f * D := fun h => by rw [h]
  have m6 : d' = f + 1 → d' * D = f * D + D := fun h => by rw [h, x4]
  clear hu hX h4 hf A B
  rcases hround with ⟨h1, h2⟩ | ⟨h1, h2⟩
  · rw [h1]
    omega
  · rw [h1, x4]
    omega
end Go.Proofs.YtdijkobiffhgcaaGreatDoor.Nu

namespace Go.Proofs.YtdijkobiffhgcaaGreatDoor.Nu

/-- the digits as a number, and the level: it is d*10^(-level). -/
def shortD (n : Nat) (e : Int) (ylo yhi : Nat) (p : Int) : Nat × Int :=
  if dminOf n e p ylo ≤ dmaxOf n e p yhi / 10 * 10 then (dmaxOf n e p yhi / 10, p - 1)
  else if dminOf n e p ylo < dmaxOf n e p yhi then (roundU (uAt e p (4 * n)), p)
  else (dminOf n e p ylo, p)

theorem strip (d : Nat) (h : 0 < d) : ∃ j d', d = d' * 10 ^ j ∧ d' % 10 ≠ 0 := by
  induction d using Nat.strongRecOn with
  | _ d ih =>
    by_cases h0 : d % 10 = 0
    · obtain ⟨j, d', e1, e2⟩ := ih (d / 10) (by omega) (by omega)
      refine ⟨j + 1, d', ?_, e2⟩
      rw [Nat.pow_succ, ← Nat.mul_assoc, ← e1]
      omega
    · exact ⟨0, d, by simp, h0⟩

theorem pow10_ten (j : Nat) (h : 1 ≤ j) (d : Nat) : d * 10 ^ j = d * 10 ^ (j - 1) * 10 := by
  obtain ⟨k, rfl⟩ : ∃ k, j = k + 1 := ⟨j - 1, by omega⟩
  rw [Nat.add_sub_cancel, Nat.pow_succ, ← Nat.mul_assoc]

theorem best_short (n : Nat) (e : Int) (ylo yhi : Nat) (p : Int) (hyhi : 0 < yhi) (hylo : 0 < ylo) (hw : dmaxOf n e p yhi < dminOf n e p ylo + 10) (hne : dminOf n e p ylo ≤ dmaxOf n e p yhi)
    (hr : dminOf n e p ylo < dmaxOf n e p yhi → dminOf n e p ylo ≤ roundU (uAt e p (4 * n)) ∧ roundU (uAt e p (4 * n)) ≤ dmaxOf n e p yhi) :
    ∃ j d', (shortD n e ylo yhi p).1 = d' * 10 ^ j ∧ d' % 10 ≠ 0 ∧ Best n e ylo yhi ((shortD n e ylo yhi p).2 - (j : Nat)) d' := by
  have I := fun d => inI_iff n e ylo yhi p d hyhi
  have hI0 : ¬ inI n e ylo yhi p 0 := by
    unfold inI
    have := Nat.mul_pos hylo (num_pos e p)
    split <;> omega
  obtain ⟨lo, hlo⟩ : ∃ lo, dminOf n e p ylo = lo := ⟨_, rfl⟩
  obtain ⟨hi, hhi⟩ : ∃ hi, dmaxOf n e p yhi = hi := ⟨_, rfl⟩
  rw [hlo, hhi] at I hw hne hr
  have hlo0 : 0 < lo := by
    rcases Nat.eq_zero_or_pos lo with h | h
    · exact absurd ((I 0).2 ⟨by omega, Nat.zero_le _⟩) hI0
    · exact h
  unfold shortD
  rw [hlo, hhi]
  split
  · rename_i hA
    show ∃ j d', hi / 10 = d' * 10 ^ j ∧ d' % 10 ≠ 0 ∧ Best n e ylo yhi (p - 1 - (j : Nat)) d'
    obtain ⟨j, d', e1, e2⟩ := strip (hi / 10) (by omega)
    refine ⟨j, d', e1, e2, ?_⟩
    -- the one multiple of ten
    have uniq : ∀ m J, inI n e ylo yhi (p - (J : Nat)) m → 1 ≤ J → m * 10 ^ (J - 1) = hi / 10 := by
      intro m J hm hJ
      have h1 := (I _).1 ((inI_level n e ylo yhi p J m).2 hm)
      rw [pow10_ten J hJ] at h1
      omega
    have tell : inI n e ylo yhi (p - 1 - (j : Nat)) d' := by
      have h1 : inI n e ylo yhi p (d' * 10 ^ (j + 1)) := (I _).2 (by
        rw [pow10_ten (j + 1) (by omega), Nat.add_sub_cancel, ← e1]
        omega)
      have := (inI_level n e ylo yhi p (j + 1) d').1 h1
      rwa [show p - ((j + 1 : Nat) : Int) = p - 1 - (j : Nat) by omega] at this
    refine ⟨tell, ?_, ?_⟩
    · intro p' m hp hm
      obtain ⟨J, hJ⟩ : ∃ J : Nat, p' = p - (J : Nat) := ⟨(p - p').toNat, by omega⟩
      rw [hJ] at hm
      have h1 := uniq m J hm (by omega)
      rw [e1] at h1
      apply e2
      have h2 : m * 10 ^ (J - 1 - j) = d' := by
        have : 10 ^ (J - 1) = 10 ^ (J - 1 - j) * 10 ^ j := by rw [← Nat.pow_add]; congr 1; omega
        rw [this, ← Nat.mul_assoc] at h1
        exact Nat.eq_of_mul_eq_mul_right (Nat.pow_pos (by omega)) h1
      rw [← h2, pow10_ten _ (by omega)]
      omega
    · intro m hm
      have h1 := uniq m (j + 1) (by rw [show p - ((j + 1 : Nat) : Int) = p - 1 - (j : Nat) by omega]; exact hm) (by omega)
      rw [e1, Nat.add_sub_cancel] at h1
      have : m = d' := Nat.eq_of_mul_eq_mul_right (Nat.pow_pos (by omega)) h1
      subst this
      exact ⟨Nat.le_refl _, fun _ => .inl rfl⟩
  · rename_i hA
    have fewest : ∀ p' d', p' < p → ¬ inI n e ylo yhi p' d' := by
      intro p' m hp hm
      obtain ⟨J, hJ⟩ : ∃ J : Nat, p' = p - (J : Nat) := ⟨(p - p').toNat, by omega⟩
      rw [hJ] at hm
      have h1 := (I _).1 ((inI_level n e ylo yhi p J m).2 hm)
      rw [pow10_ten J (by omega)] at h1
      omega
    have ten : ∀ r, lo ≤ r → r ≤ hi → r % 10 ≠ 0 := by omega
    split
    · rename_i hB
      obtain ⟨r1, r2⟩ := hr hB
      refine ⟨0, _, by simp, ten _ r1 r2, ?_⟩
      rw [show ∀ x : Int, x - ((0 : Nat) : Int) = x by omega]
      exact ⟨(I _).2 ⟨r1, r2⟩, fewest, fun d' _ => roundU_near n e p d'⟩
    · refine ⟨0, _, by simp, ten _ (Nat.le_refl _) hne, ?_⟩
      rw [show ∀ x : Int, x - ((0 : Nat) : Int) = x by omega]
      refine ⟨(I _).2 ⟨Nat.le_refl _, hne⟩, fewest, fun d' hd => ?_⟩
      have := (I _).1 hd
      have : d' = lo := by omega
      subst this
      exact ⟨Nat.le_refl _, fun _ => .inl rfl⟩

/-- where the ends lie half a unit away, and a unit is from 1 to 10. -/
theorem best_even (n : Nat) (e p : Int) (hn : 0 < n) (h1 : den e p ≤ num e p) (h10 : num e p < 10 * den e p) :
    ∃ j d', (shortD n e (4 * n - 2) (4 * n + 2) p).1 = d' * 10 ^ j ∧ d' % 10 ≠ 0 ∧ Best n e (4 * n - 2) (4 * n + 2) ((shortD n e (4 * n - 2) (4 * n + 2) p).2 - (j : Nat)) d' := by
  have I := fun d => inI_iff n e (4 * n - 2) (4 * n + 2) p d (by omega)
  have hN : (4 * n - 2) * num e p + 2 * num e p = 4 * (n * num e p) := by
    rw [← Nat.add_mul, ← Nat.mul_assoc]
    congr 1; omega
  have hM : (4 * n + 2) * num e p = 4 * (n * num e p) + 2 * num e p := by rw [Nat.add_mul, Nat.mul_assoc]
  have R := roundU_near n e p
  obtain ⟨f, hf⟩ : ∃ f, n * num e p / den e p = f := ⟨_, rfl⟩
  have hdm := Nat.div_add_mod (n * num e p) (den e p)
  have hmod := Nat.mod_lt (n * num e p) (den_pos e p)
  rw [hf] at hdm
  -- where a unit is 1, the number is whole
  have whole : num e p = den e p → n * num e p % den e p = 0 := fun h => by rw [h]; exact Nat.mul_mod_left _ _
  have inD : ∀ d, inI n e (4 * n - 2) (4 * n + 2) p d ↔ if n % 2 = 1 then (4 * n - 2) * num e p < 4 * (d * den e p) ∧ 4 * (d * den e p) < (4 * n + 2) * num e p else (4 * n - 2) * num e p ≤ 4 * (d * den e p) ∧ 4 * (d * den e p) ≤ (4 * n + 2) * num e p := by
    intro d
    unfold inI
    rw [Nat.mul_assoc]
  -- a whole number at half a unit or less tells the number
  have near : ∀ d, 2 * dist n e p d ≤ den e p → inI n e (4 * n - 2) (4 * n + 2) p d := by
    intro d hd
    rw [inD]
    unfold dist at hd
    by_cases hl : num e p = den e p
    · -- then it is that number
      have hx : n * num e p = n * den e p := by rw [hl]
      have : d = n := by
        rcases Nat.lt_trichotomy d n with h | h | h
        · have := Nat.mul_le_mul_right (den e p) h
          rw [Nat.succ_mul] at this
          have := den_pos e p
          omega
        · exact h
        · have := Nat.mul_le_mul_right (den e p) h
          rw [Nat.succ_mul] at this
          have := den_pos e p
          omega
      subst this
      have := den_pos e p
      split <;> omega
    · split <;> omega
  have hne : dminOf n e p (4 * n - 2) ≤ dmaxOf n e p (4 * n + 2) ∧ (dminOf n e p (4 * n - 2) ≤ roundU (uAt e p (4 * n)) ∧ roundU (uAt e p (4 * n)) ≤ dmaxOf n e p (4 * n + 2)) := by
    have hr : inI n e (4 * n - 2) (4 * n + 2) p (roundU (uAt e p (4 * n))) := by
      apply near
      have a := (R f).1
      have b := (R (f + 1)).1
      have x : den e p * f = f * den e p := Nat.mul_comm _ _
      have y : (f + 1) * den e p = f * den e p + den e p := Nat.succ_mul _ _
      have c1 : dist n e p f = n * num e p % den e p := by unfold dist; omega
      have c2 : dist n e p (f + 1) = den e p - n * num e p % den e p := by unfold dist; rw [y]; omega
      omega
    have := (I _).1 hr
    omega
  refine best_short n e (4 * n - 2) (4 * n + 2) p (by omega) (by omega) ?_ hne.1 (fun _ => hne.2)
  have a := (I _).2 ⟨Nat.le_refl _, hne.1⟩
  have b := (I _).2 ⟨hne.1, Nat.le_refl _⟩
  rw [inD] at a b
  have c : dminOf n e p (4 * n - 2) + 10 ≤ dmaxOf n e p (4 * n + 2) → dminOf n e p (4 * n - 2) * den e p + 10 * den e p ≤ dmaxOf n e p (4 * n + 2) * den e p := fun h => by
    have := Nat.mul_le_mul_right (den e p) h
    rwa [Nat.add_mul] at this
  have hd := den_pos e p
  by_cases ho : n % 2 = 1
  · rw [if_pos ho] at a b
    omega
  · rw [if_neg ho] at a b
    omega
end Go.Proofs.YtdijkobiffhgcaaGreatDoor.Nu

namespace Go.Proofs.YtdijkobiffhgcaaGreatDoor.Nu

def skew (e : Int) : Int := (e * 631305 - 261663) / 2097152

def skOk (e : Int) : Bool :=
  let p := -skew e
  let lo := dminOf 4503599627370496 e p 18014398509481983
  let hi := dmaxOf 4503599627370496 e p 18014398509481986
  let r := roundU (uAt e p 18014398509481984)
  let s := (8 - (e + lp10 p)).toNat
  Nat.ble lo hi && Nat.blt hi (lo + 10) && (Nat.ble hi lo || (Nat.ble lo r && Nat.ble r hi)) && decide (0 ≤ e + lp10 p) && decide (e + lp10 p ≤ 3) && decide (-348 ≤ p) && decide (p ≤ 347) &&
    (uscaleN 9223372036854775296 (row p).1 (row p).2 s == uAt e p 18014398509481983) &&
    (uscaleN 9223372036854775808 (row p).1 (row p).2 s == uAt e p 18014398509481984) &&
    (uscaleN 9223372036854776832 (row p).1 (row p).2 s == uAt e p 18014398509481986)

theorem sk_all : (List.range 2045).all (fun i : Nat => skOk ((i : Int) - 1073)) = true := by kernel_rfl

theorem sk_ok (e : Int) (h0 : -1074 < e) (h1 : e ≤ 971) : skOk e = true := by
  have := List.all_eq_true.1 sk_all (e + 1073).toNat (List.mem_range.2 (by omega))
  rwa [show ((e + 1073).toNat : Int) - 1073 = e by omega] at this

theorem sk_facts (e : Int) (h0 : -1074 < e) (h1 : e ≤ 971) : 0 ≤ e + lp10 (-skew e) ∧ e + lp10 (-skew e) ≤ 3 ∧ -348 ≤ -skew e ∧ -skew e ≤ 347 ∧
    uscaleN 9223372036854775296 (row (-skew e)).1 (row (-skew e)).2 (8 - (e + lp10 (-skew e))).toNat = uAt e (-skew e) 18014398509481983 ∧
    uscaleN 9223372036854775808 (row (-skew e)).1 (row (-skew e)).2 (8 - (e + lp10 (-skew e))).toNat = uAt e (-skew e) 18014398509481984 ∧
    uscaleN 9223372036854776832 (row (-skew e)).1 (row (-skew e)).2 (8 - (e + lp10 (-skew e))).toNat = uAt e (-skew e) 18014398509481986 := by
  have h := sk_ok e h0 h1
  unfold skOk at h
  simp only [Bool.and_eq_true, Bool.or_eq_true, Nat.ble_eq, Nat.blt_eq, decide_eq_true_eq, beq_iff_eq] at h
  obtain ⟨⟨⟨⟨⟨⟨⟨⟨⟨a, b⟩, c⟩, d⟩, f⟩, g⟩, i⟩, j⟩, k⟩, l⟩ := h
  exact ⟨d, f, g, i, j, k, l⟩

theorem best_skew (e : Int) (h0 : -1074 < e) (h1 : e ≤ 971) :
    ∃ j d', (shortD 4503599627370496 e 18014398509481983 18014398509481986 (-skew e)).1 = d' * 10 ^ j ∧ d' % 10 ≠ 0 ∧ Best 4503599627370496 e 18014398509481983 18014398509481986 ((shortD 4503599627370496 e 18014398509481983 18014398509481986 (-skew e)).2 - (j : Nat)) d' := by
  have h := sk_ok e h0 h1
  unfold skOk at h
  simp only [Bool.and_eq_true, Bool.or_eq_true, Nat.ble_eq, Nat.blt_eq, decide_eq_true_eq, beq_iff_eq] at h
  obtain ⟨⟨⟨⟨⟨⟨⟨⟨⟨a, b⟩, c⟩, d⟩, f⟩, g⟩, i⟩, j⟩, k⟩, l⟩ := h
  refine best_short _ e _ _ _ (by omega) (by omega) b a (fun hlt => ?_)
  rcases c with c | c
  · omega
  · exact c
end Go.Proofs.YtdijkobiffhgcaaGreatDoor.Nu

namespace Go.Proofs.YtdijkobiffhgcaaGreatDoor.Nu

/-- 10^(n0-1) is not above the number, 10^n0 is. -/
structure IsPoint (n : Nat) (e n0 : Int) : Prop where
  lt : n * num e (-n0) < den e (-n0)
  ge : den e (1 - n0) ≤ n * num e (1 - n0)

def lowAt (n : Nat) (e p : Int) : Nat := n * num e p / den e p
def leftAt (n : Nat) (e p : Int) : Nat := n * num e p % den e p

/-- which of the two is taken. -/
def takeUp (n : Nat) (e : Int) (ylo yhi : Nat) (p : Int) : Bool :=
  decide (inI n e ylo yhi p (lowAt n e p + 1)) && (!decide (inI n e ylo yhi p (lowAt n e p)) || decide (den e p < 2 * leftAt n e p) || (decide (2 * leftAt n e p = den e p) && decide (lowAt n e p % 2 = 1)))

def taken (n : Nat) (e : Int) (ylo yhi : Nat) (p : Int) : Nat := if takeUp n e ylo yhi p then lowAt n e p + 1 else lowAt n e p

theorem low_spec (n : Nat) (e p : Int) : lowAt n e p * den e p + leftAt n e p = n * num e p ∧ leftAt n e p < den e p := by
  refine ⟨?_, Nat.mod_lt _ (den_pos e p)⟩
  have := Nat.div_add_mod (n * num e p) (den e p)
  rwa [Nat.mul_comm (den e p)] at this

/-- I holds whatever lies between what it holds and the number. -/
theorem inI_below (n : Nat) (e : Int) (ylo yhi : Nat) (p : Int) (hhi : 4 * n < yhi) (d m : Nat) (h : inI n e ylo yhi p d) (h1 : d ≤ m) (h2 : m * den e p ≤ n * num e p) : inI n e ylo yhi p m := by
  have a := Nat.mul_le_mul_right (den e p) h1
  have b := Nat.mul_lt_mul_of_pos_right hhi (num_pos e p)
  have c : 4 * n * num e p = 4 * (n * num e p) := Nat.mul_assoc _ _ _
  unfold inI at h ⊢
  rw [Nat.mul_assoc 4] at h ⊢
  split at h <;> simp_all <;> omega
theorem inI_above (n : Nat) (e : Int) (ylo yhi : Nat) (p : Int) (hlo : ylo < 4 * n) (d m : Nat) (h : inI n e ylo yhi p d) (h1 : m ≤ d) (h2 : n * num e p ≤ m * den e p) : inI n e ylo yhi p m := by
  have a := Nat.mul_le_mul_right (den e p) h1
  have b := Nat.mul_lt_mul_of_pos_right hlo (num_pos e p)
  have c : 4 * n * num e p = 4 * (n * num e p) := Nat.mul_assoc _ _ _
  unfold inI at h ⊢
  rw [Nat.mul_assoc 4] at h ⊢
  split at h <;> simp_all <;> omega

/-- two that both tell the number are no further apart than a unit. -/
theorem inI_width (n : Nat) (e : Int) (ylo yhi : Nat) (p : Int) (hw : yhi ≤ ylo + 4) (d m : Nat) (hd : inI n e ylo yhi p d) (hm : inI n e ylo yhi p m) (h : d < m) : den e p ≤ num e p := by
  have a := Nat.mul_le_mul_right (den e p) (show d + 1 ≤ m from h)
  rw [Nat.succ_mul] at a
  have b := Nat.mul_le_mul_right (num e p) hw
  rw [Nat.add_mul] at b
  unfold inI at hd hm
  rw [Nat.mul_assoc 4] at hd hm
  split at hd <;> simp_all <;> omega

theorem zero_not (n : Nat) (e : Int) (ylo yhi : Nat) (p : Int) (h : 0 < ylo) : ¬ inI n e ylo yhi p 0 := by
  have := Nat.mul_pos h (num_pos e p)
  unfold inI
  split <;> simp <;> omega

/-- the nearest of those that tell it. -/
theorem taken_near (n : Nat) (e : Int) (ylo yhi : Nat) (p : Int) (hlo : ylo < 4 * n) (hhi : 4 * n < yhi)
    (hok : inI n e ylo yhi p (lowAt n e p) ∨ inI n e ylo yhi p (lowAt n e p + 1)) :
    inI n e ylo yhi p (taken n e ylo yhi p) ∧ ∀ d', inI n e ylo yhi p d' → dist n e p (taken n e ylo yhi p) ≤ dist n e p d' ∧ (dist n e p (taken n e ylo yhi p) = dist n e p d' → d' = taken n e ylo yhi p ∨ (taken n e ylo yhi p % 2 = 0 ∧ d' % 2 = 1)) := by
  obtain ⟨s1, s2⟩ := low_spec n e p
  have below : ∀ d', inI n e ylo yhi p d' → d' ≤ lowAt n e p → inI n e ylo yhi p (lowAt n e p) := fun d' h h' => inI_below n e ylo yhi p hhi d' _ h h' (by omega)
  have above : ∀ d', inI n e ylo yhi p d' → lowAt n e p + 1 ≤ d' → inI n e ylo yhi p (lowAt n e p + 1) := fun d' h h' => inI_above n e ylo yhi p hlo d' _ h h' (by rw [Nat.succ_mul]; omega)
  obtain ⟨f, hf⟩ : ∃ f, lowAt n e p = f := ⟨_, rfl⟩
  obtain ⟨r, hr⟩ : ∃ r, leftAt n e p = r := ⟨_, rfl⟩
  obtain ⟨D, hD⟩ : ∃ D, den e p = D := ⟨_, rfl⟩
  obtain ⟨X, hX⟩ : ∃ X, n * num e p = X := ⟨_, rfl⟩
  have dd : ∀ d, dist n e p d = (d * D - X) + (X - d * D) := fun d => by unfold dist; rw [hD, hX]
  have hT : taken n e ylo yhi p = if takeUp n e ylo yhi p then f + 1 else f := by unfold taken; rw [hf]
  have hU : takeUp n e ylo yhi p = true ↔ inI n e ylo yhi p (f + 1) ∧ (¬ inI n e ylo yhi p f ∨ D < 2 * r ∨ (2 * r = D ∧ f % 2 = 1)) := by
    unfold takeUp
    rw [hf, hr, hD]
    simp only [Bool.and_eq_true, Bool.or_eq_true, decide_eq_true_eq, Bool.not_eq_true', decide_eq_false_iff_not]
    constructor
    · rintro ⟨a, (b | b) | b⟩ <;> simp_all
    · rintro ⟨a, b | b | b⟩ <;> simp_all
  rw [hf, hr, hD, hX] at s1
  rw [hr, hD] at s2
  rw [hf] at below above hok
  have hsucc : (f + 1) * D = f * D + D := Nat.succ_mul _ _
  have mono : ∀ a b, a ≤ b → a * D ≤ b * D := fun a b h => Nat.mul_le_mul_right D h
  have strict : ∀ a b, a < b → a * D + D ≤ b * D := fun a b h => by have := Nat.mul_le_mul_right D (show a + 1 ≤ b from h); rwa [Nat.succ_mul] at this
  have hD0 : 0 < D := by rw [← hD]; exact den_pos e p
  by_cases hup : takeUp n e ylo yhi p = true
  · rw [hT, if_pos hup]
    obtain ⟨u1, u2⟩ := hU.1 hup
    refine ⟨u1, fun d' hd => ?_⟩
    rw [dd, dd, hsucc]
    rcases Nat.lt_or_ge d' (f + 1) with h | h
    · have b1 := below d' hd (by omega)
      have m1 := mono d' f (by omega)
      rcases u2 with u2 | u2 | u2
      · exact absurd b1 u2
      · constructor
        · omega
        · intro _; omega
      · constructor
        · omega
        · intro _
          rcases Nat.lt_or_ge d' f with h' | h'
          · have := strict d' f h'; omega
          · right; omega
    · rcases Nat.lt_or_ge (f + 1) d' with h' | h'
      · have := strict (f + 1) d' h'
        rw [hsucc] at this
        constructor
        · omega
        · intro _; omega
      · obtain rfl : d' = f + 1 := by omega
        rw [hsucc]
        exact ⟨Nat.le_refl _, fun _ => .inl rfl⟩
  · rw [hT, if_neg hup]
    have nu : ¬ (inI n e ylo yhi p (f + 1) ∧ (¬ inI n e ylo yhi p f ∨ D < 2 * r ∨ (2 * r = D ∧ f % 2 = 1))) := fun h => hup (hU.2 h)
    have inf : inI n e ylo yhi p f := by
      rcases hok with h | h
      · exact h
      · by_cases hh : inI n e ylo yhi p f
        · exact hh
        · exact absurd ⟨h, .inl hh⟩ nu
    refine ⟨inf, fun d' hd => ?_⟩
    rw [dd, dd]
    rcases Nat.lt_or_ge f d' with h | h
    · have a1 := above d' hd h
      have c : ¬ (D < 2 * r ∨ (2 * r = D ∧ f % 2 = 1)) := fun hh => nu ⟨a1, .inr hh⟩
      have m1 := mono (f + 1) d' h
      rw [hsucc] at m1
      constructor
      · omega
      · intro _
        rcases Nat.lt_or_ge (f + 1) d' with h' | h'
        · have := strict (f + 1) d' h'
          rw [hsucc] at this
          omega
        · right; omega
    · rcases Nat.lt_or_ge d' f with h' | h'
      · have := strict d' f h'
        constructor
        · omega
        · intro _; omega
      · obtain rfl : d' = f := by omega
        exact ⟨Nat.le_refl _, fun _ => .inl rfl⟩

/-- the level one tenth up, of bounds. -/
theorem pt_low (n : Nat) (e n0 : Int) (h : IsPoint n e n0) (k : Nat) : n * num e (k - n0) < 10 ^ k * den e (k - n0) := by
  have a := level_ge e (k - n0) k n 1
  rw [show (k : Int) - n0 - k = -n0 by omega, Nat.one_mul, Nat.one_mul] at a
  have := h.lt
  omega

/-- THE REFERENCE's CHOICE IS THE BEST: k the first level at which one of the two tells the number. -/
theorem best_ref (n : Nat) (e : Int) (ylo yhi : Nat) (n0 : Int) (hn : 0 < n) (hylo : 0 < ylo) (hlo : ylo < 4 * n) (hhi : 4 * n < yhi) (hw : yhi ≤ ylo + 4) (hpt : IsPoint n e n0)
    (hsmall : n < 10 → inI n e ylo yhi (-n0) 1 → lowAt n e (1 - n0) = 9 ∧ den e (1 - n0) < 2 * leftAt n e (1 - n0))
    (k : Nat) (hk : 1 ≤ k) (hok : inI n e ylo yhi (k - n0) (lowAt n e (k - n0)) ∨ inI n e ylo yhi (k - n0) (lowAt n e (k - n0) + 1))
    (hfirst : ∀ k' : Nat, 1 ≤ k' → k' < k → ¬ inI n e ylo yhi (k' - n0) (lowAt n e (k' - n0)) ∧ ¬ inI n e ylo yhi (k' - n0) (lowAt n e (k' - n0) + 1)) :
    (taken n e ylo yhi (k - n0) < 10 ^ k ∧ Best n e ylo yhi (k - n0) (taken n e ylo yhi (k - n0))) ∨ (k = 1 ∧ taken n e ylo yhi (k - n0) = 10 ∧ Best n e ylo yhi (-n0) 1) := by
  have low_lt : ∀ k : Nat, lowAt n e (k - n0) < 10 ^ k := fun k => by
    unfold lowAt
    exact (Nat.div_lt_iff_lt_mul (den_pos _ _)).2 (pt_low n e n0 hpt k)
  have split2 : ∀ p d', inI n e ylo yhi p d' → inI n e ylo yhi p (lowAt n e p) ∨ inI n e ylo yhi p (lowAt n e p + 1) := by
    intro p d' hd
    obtain ⟨s1, s2⟩ := low_spec n e p
    rcases Nat.lt_or_ge (lowAt n e p) d' with h | h
    · exact .inr (inI_above n e ylo yhi p hlo d' _ hd h (by rw [Nat.succ_mul]; omega))
    · exact .inl (inI_below n e ylo yhi p hhi d' _ hd h (by omega))
  by_cases h10 : inI n e ylo yhi (-n0) 1
  · -- 10^n0 tells it
    have t10 : inI n e ylo yhi (1 - n0) 10 := by
      have := (inI_level n e ylo yhi (1 - n0) 1 1).2 (by rw [show (1 : Int) - n0 - ((1 : Nat) : Int) = -n0 by omega]; exact h10)
      simpa using this
    have l1 := low_lt 1
    rw [show ((1 : Nat) : Int) = 1 from rfl] at l1
    have hk1 : k = 1 := by
      rcases Nat.lt_or_ge 1 k with h | h
      · have := hfirst 1 (Nat.le_refl _) h
        rcases split2 (1 - n0) 10 t10 with h | h
        · exact absurd h this.1
        · exact absurd h this.2
      · omega
    subst hk1
    rw [show ((1 : Nat) : Int) = 1 from rfl] at hok ⊢
    obtain ⟨s1, s2⟩ := low_spec n e (1 - n0)
    have up : inI n e ylo yhi (1 - n0) (lowAt n e (1 - n0) + 1) := inI_above n e ylo yhi (1 - n0) hlo 10 _ t10 (by omega) (by rw [Nat.succ_mul]; omega)
    have few : ∀ d, d < 10 → inI n e ylo yhi (1 - n0) d → n < 10 := by
      intro d hd hi
      have a := inI_width n e ylo yhi (1 - n0) hw d 10 hi t10 hd
      have b := pt_low n e n0 hpt 1
      rw [show ((1 : Nat) : Int) = 1 from rfl] at b
      rcases Nat.lt_or_ge n 10 with h | h
      · exact h
      · have := Nat.mul_le_mul h a
        omega
    have htake : taken n e ylo yhi (1 - n0) = 10 := by
      unfold taken takeUp
      by_cases hlow : inI n e ylo yhi (1 - n0) (lowAt n e (1 - n0))
      · obtain ⟨a, b⟩ := hsmall (few _ (by omega) hlow) h10
        rw [decide_eq_true up, decide_eq_true b, a]
        simp
      · rw [decide_eq_true up, decide_eq_false hlow]
        simp only [Bool.not_false, Bool.true_or, Bool.and_self, if_true]
        rcases Nat.lt_or_ge (lowAt n e (1 - n0) + 1) 10 with h | h
        · have := (hsmall (few _ h up) h10).1
          omega
        · omega
    -- at 10^n0 itself
    have one : ∀ m, inI n e ylo yhi (-n0) m → m = 1 := by
      intro m hm
      rcases Nat.lt_or_ge 1 m with h | h
      · have a := inI_width n e ylo yhi (-n0) hw 1 m h10 hm h
        have b := hpt.lt
        have := Nat.mul_le_mul hn a
        omega
      · rcases Nat.eq_zero_or_pos m with h0 | h0
        · subst h0
          exact absurd hm (zero_not n e ylo yhi _ hylo)
        · omega
    right
    refine ⟨rfl, htake, h10, ?_, ?_⟩
    · intro p' m hp hm
      obtain ⟨J, hJ⟩ : ∃ J : Nat, p' = -n0 - (J : Nat) := ⟨(-n0 - p').toNat, by omega⟩
      rw [hJ] at hm
      have := one _ ((inI_level n e ylo yhi (-n0) J m).2 hm)
      rw [pow10_ten J (by omega)] at this
      omega
    · intro m hm
      have := one m hm
      subst this
      exact ⟨Nat.le_refl _, fun _ => .inl rfl⟩
  · left
    obtain ⟨t1, t2⟩ := taken_near n e ylo yhi (k - n0) hlo hhi hok
    refine ⟨?_, t1, ?_, t2⟩
    · have a := low_lt k
      have b : taken n e ylo yhi (k - n0) ≤ 10 ^ k := by unfold taken; split <;> omega
      rcases Nat.lt_or_ge (taken n e ylo yhi (k - n0)) (10 ^ k) with h | h
      · exact h
      · exfalso
        apply h10
        have hh : taken n e ylo yhi (k - n0) = 1 * 10 ^ k := by omega
        rw [hh] at t1
        have := (inI_level n e ylo yhi (k - n0) k 1).1 t1
        rwa [show (k : Int) - n0 - k = -n0 by omega] at this
    · intro p' m hp hm
      rcases Int.lt_or_le (-n0) p' with h | h
      · obtain ⟨k', hk'⟩ : ∃ k' : Nat, p' = (k' : Nat) - n0 := ⟨(p' + n0).toNat, by omega⟩
        rw [hk'] at hm
        have := hfirst k' (by omega) (by omega)
        rcases split2 _ _ hm with h | h
        · exact this.1 h
        · exact this.2 h
      · obtain ⟨J, hJ⟩ : ∃ J : Nat, p' = -n0 - (J : Nat) := ⟨(-n0 - p').toNat, by omega⟩
        rw [hJ] at hm
        have hm2 := (inI_level n e ylo yhi (-n0) J m).2 hm
        rcases Nat.eq_zero_or_pos (m * 10 ^ J) with h0 | h0
        · rw [h0] at hm2
          exact zero_not n e ylo yhi _ hylo hm2
        · apply h10
          refine inI_above n e ylo yhi (-n0) hlo _ 1 hm2 h0 ?_
          have := hpt.lt
          omega
end Go.Proofs.YtdijkobiffhgcaaGreatDoor.Nu

namespace Go.Proofs.YtdijkobiffhgcaaGreatDoor.Nu

theorem IsPoint.one {n : Nat} {e a b : Int} (h : IsPoint n e a) (h' : IsPoint n e b) : a = b := by
  have key : ∀ a b : Int, IsPoint n e a → IsPoint n e b → ¬ a < b := by
    intro a b h h' hab
    obtain ⟨j, hj⟩ : ∃ j : Nat, b = a + 1 + (j : Nat) := ⟨(b - a - 1).toNat, by omega⟩
    -- 10^(b-1) at the level of a
    have l := level_ge e (-a) j n 1
    rw [Nat.one_mul, Nat.one_mul, show -a - (j : Int) = 1 - b by omega] at l
    have h1 := l.2 h'.ge
    have h2 := h.lt
    have h3 : 1 * den e (-a) ≤ 10 ^ j * den e (-a) := Nat.mul_le_mul_right _ (Nat.one_le_pow _ _ (by omega))
    omega
  have := key a b h h'
  have := key b a h' h
  omega

def ptOk (n : Nat) (n0 : Int) : Bool :=
  Nat.blt (n * num (-1074) (-n0)) (den (-1074) (-n0)) && Nat.ble (den (-1074) (1 - n0)) (n * num (-1074) (1 - n0)) &&
    (!decide (inI n (-1074) (4 * n - 2) (4 * n + 2) (-n0) 1) || (Nat.beq (lowAt n (-1074) (1 - n0)) 9 && Nat.blt (den (-1074) (1 - n0)) (2 * leftAt n (-1074) (1 - n0))))

theorem ptOk_all : (List.range 9).all (fun i => ptOk (i + 1) (if i < 2 then -323 else -322)) = true := by kernel_rfl

theorem small_ok (n : Nat) (n0 : Int) (hn : 0 < n) (h9 : n < 10) (hpt : IsPoint n (-1074) n0) (h10 : inI n (-1074) (4 * n - 2) (4 * n + 2) (-n0) 1) :
    lowAt n (-1074) (1 - n0) = 9 ∧ den (-1074) (1 - n0) < 2 * leftAt n (-1074) (1 - n0) := by
  have h := List.all_eq_true.1 ptOk_all (n - 1) (List.mem_range.2 (by omega))
  rw [show n - 1 + 1 = n by omega] at h
  obtain ⟨a, ha⟩ : ∃ a : Int, (if n - 1 < 2 then (-323 : Int) else -322) = a := ⟨_, rfl⟩
  rw [ha] at h
  unfold ptOk at h
  simp only [Bool.and_eq_true, Bool.or_eq_true, Bool.not_eq_true', decide_eq_false_iff_not, Nat.blt_eq, Nat.ble_eq, Nat.beq_eq] at h
  obtain ⟨⟨h1, h2⟩, h3⟩ := h
  obtain rfl : n0 = a := hpt.one ⟨h1, h2⟩
  rcases h3 with h3 | h3
  · exact absurd h10 h3
  · exact h3

def unitOk (e : Int) : Bool := Nat.ble (den e (-lp2 e)) (num e (-lp2 e)) && Nat.blt (num e (-lp2 e)) (10 * den e (-lp2 e))
theorem units_all : (List.range 2046).all (fun i : Nat => unitOk ((i : Int) - 1074)) = true := by kernel_rfl
theorem unit_ok (e : Int) (h0 : -1074 ≤ e) (h1 : e ≤ 971) : den e (-lp2 e) ≤ num e (-lp2 e) ∧ num e (-lp2 e) < 10 * den e (-lp2 e) := by
  have := List.all_eq_true.1 units_all (e + 1074).toNat (List.mem_range.2 (by omega))
  rw [show ((e + 1074).toNat : Int) - 1074 = e by omega] at this
  unfold unitOk at this
  simpa only [Bool.and_eq_true, Nat.ble_eq, Nat.blt_eq] using this

/-- WHOLE NUMBERS whose unit is at most 1: their own digits are the best. -/
theorem best_whole (n : Nat) (e : Int) (ylo yhi : Nat) (he : e ≤ 0) (hlo : ylo < 4 * n) (hhi : 4 * n < yhi) (hlo2 : 4 * n ≤ ylo + 2) (hhi2 : yhi ≤ 4 * n + 2)
    (m t : Nat) (hm : m * 10 ^ t * 2 ^ (-e).toNat = n) (h10 : m % 10 ≠ 0) : Best n e ylo yhi (-(t : Int)) m := by
  have hn0 : num e 0 = 1 := by unfold num; rw [show e.toNat = 0 by omega]; rfl
  have hd0 : den e 0 = 2 ^ (-e).toNat := by unfold den; simp
  have hp : 0 < 2 ^ (-e).toNat := Nat.pow_pos (by omega)
  -- at level 0 only the number itself
  have only : ∀ d, inI n e ylo yhi 0 d → d = m * 10 ^ t := by
    intro d hd
    have a : ylo ≤ 4 * (d * den e 0) ∧ 4 * (d * den e 0) ≤ yhi := by
      unfold inI at hd
      rw [hn0, Nat.mul_one, Nat.mul_one, Nat.mul_assoc] at hd
      split at hd <;> omega
    rw [hd0] at a
    rcases Nat.lt_trichotomy d (m * 10 ^ t) with h | h | h
    · have := Nat.mul_le_mul_right (2 ^ (-e).toNat) h
      rw [hm, Nat.succ_mul] at this
      omega
    · exact h
    · have := Nat.mul_le_mul_right (2 ^ (-e).toNat) h
      rw [Nat.succ_mul, hm] at this
      omega
  have self : inI n e ylo yhi 0 (m * 10 ^ t) := by
    unfold inI
    rw [hn0, hd0, Nat.mul_one, Nat.mul_one, Nat.mul_assoc, hm]
    split <;> omega
  have up : ∀ (j : Nat) d, inI n e ylo yhi (-(j : Int)) d → d * 10 ^ j = m * 10 ^ t := fun j d hd =>
    only _ ((inI_level n e ylo yhi 0 j d).2 (by rwa [show (0 : Int) - (j : Int) = -(j : Int) by omega]))
  refine ⟨?_, ?_, ?_⟩
  · have := (inI_level n e ylo yhi 0 t m).1 self
    rwa [show (0 : Int) - (t : Int) = -(t : Int) by omega] at this
  · intro p' d hp' hd
    obtain ⟨J, hJ⟩ : ∃ J : Nat, p' = -(J : Int) := ⟨(-p').toNat, by omega⟩
    rw [hJ] at hd
    have h := up J d hd
    apply h10
    have h2 : d * 10 ^ (J - t) = m := by
      have : 10 ^ J = 10 ^ (J - t) * 10 ^ t := by rw [← Nat.pow_add]; congr 1; omega
      rw [this, ← Nat.mul_assoc] at h
      exact Nat.eq_of_mul_eq_mul_right (Nat.pow_pos (by omega)) h
    rw [← h2, pow10_ten _ (by omega)]
    omega
  · intro d hd
    have h := up t d hd
    obtain rfl : d = m := Nat.eq_of_mul_eq_mul_right (Nat.pow_pos (by omega)) h
    exact ⟨Nat.le_refl _, fun _ => .inl rfl⟩
end Go.Proofs.YtdijkobiffhgcaaGreatDoor.Nu

namespace Go.Proofs.YtdijkobiffhgcaaGreatDoor.Nu

/-- n and e as a number's parts: 53 bits, or the least place. -/
structure Parts (n : Nat) (e : Int) : Prop where
  pos : 0 < n
  lt : n < 9007199254740992
  ge : -1074 ≤ e
  le : e ≤ 971
  full : 4503599627370496 ≤ n ∨ e = -1074

def yloOf (n : Nat) (e : Int) : Nat := if n = 4503599627370496 ∧ -1074 < e then 18014398509481983 else 4 * n - 2
def yhiOf (n : Nat) : Nat := 4 * n + 2

/-- P/Q against y quarters of 2^e. -/
def inR (n : Nat) (e : Int) (ylo yhi P Q : Nat) : Prop :=
  if n % 2 = 1 then ylo * (2 ^ e.toNat * Q) < 4 * P * 2 ^ (-e).toNat ∧ 4 * P * 2 ^ (-e).toNat < yhi * (2 ^ e.toNat * Q)
  else ylo * (2 ^ e.toNat * Q) ≤ 4 * P * 2 ^ (-e).toNat ∧ 4 * P * 2 ^ (-e).toNat ≤ yhi * (2 ^ e.toNat * Q)

/-- of a decimal: d*10^(-p). -/
theorem inR_dec (n : Nat) (e : Int) (ylo yhi : Nat) (p : Int) (d : Nat) : inR n e ylo yhi (d * 10 ^ (-p).toNat) (10 ^ p.toNat) ↔ inI n e ylo yhi p d := by
  unfold inR inI num den
  have e1 : 4 * (d * 10 ^ (-p).toNat) * 2 ^ (-e).toNat = 4 * d * (2 ^ (-e).toNat * 10 ^ (-p).toNat) := by ac_rfl
  rw [e1]

/-- what is computed at a place e': f downwards, and rounded. -/
def fAt (P Q : Nat) (e : Int) : Nat := P * 2 ^ (-e).toNat / (Q * 2 ^ e.toNat)
def rAt (P Q : Nat) (e : Int) : Nat := P * 2 ^ (-e).toNat % (Q * 2 ^ e.toNat)
def nAt (P Q : Nat) (e : Int) : Nat := if Q * 2 ^ e.toNat < 2 * rAt P Q e ∨ (2 * rAt P Q e = Q * 2 ^ e.toNat ∧ fAt P Q e % 2 = 1) then fAt P Q e + 1 else fAt P Q e

/-- the place that is chosen. -/
structure Place (P Q : Nat) (e : Int) : Prop where
  ge : -1074 ≤ e
  lt : fAt P Q e < 9007199254740992
  full : 4503599627370496 ≤ fAt P Q e ∨ e = -1074

/-- one place on: half as much. -/
theorem shift (P Q : Nat) (e : Int) : 2 * (P * 2 ^ (-(e + 1)).toNat) * (Q * 2 ^ e.toNat) = P * 2 ^ (-e).toNat * (Q * 2 ^ (e + 1).toNat) := by
  rcases Int.lt_or_le e 0 with h | h
  · have a : (-e).toNat = (-(e + 1)).toNat + 1 := by omega
    have b : (e + 1).toNat = 0 := by omega
    have c : e.toNat = 0 := by omega
    rw [a, b, c, Nat.pow_succ]
    ac_rfl
  · have a : (-e).toNat = 0 := by omega
    have b : (e + 1).toNat = e.toNat + 1 := by omega
    have c : (-(e + 1)).toNat = 0 := by omega
    rw [a, b, c, Nat.pow_succ]
    ac_rfl

/-- the ratio at the place e, times y: comparisons. -/
theorem f_le (P Q : Nat) (hQ : 0 < Q) (e : Int) (m : Nat) : m ≤ fAt P Q e ↔ m * (Q * 2 ^ e.toNat) ≤ P * 2 ^ (-e).toNat := by
  unfold fAt
  exact Nat.le_div_iff_mul_le (Nat.mul_pos hQ (Nat.pow_pos (by omega)))

/-- at one place further: f is halved. -/
theorem f_next (P Q : Nat) (hQ : 0 < Q) (e : Int) (m : Nat) : m ≤ fAt P Q (e + 1) ↔ 2 * m ≤ fAt P Q e := by
  rw [f_le P Q hQ, f_le P Q hQ]
  have h := shift P Q e
  have h1 : 0 < Q * 2 ^ e.toNat := Nat.mul_pos hQ (Nat.pow_pos (by omega))
  have h2 : 0 < Q * 2 ^ (e + 1).toNat := Nat.mul_pos hQ (Nat.pow_pos (by omega))
  have e1 : m * (Q * 2 ^ (e + 1).toNat) ≤ P * 2 ^ (-(e + 1)).toNat ↔ 2 * (m * (Q * 2 ^ (e + 1).toNat)) * (Q * 2 ^ e.toNat) ≤ 2 * (P * 2 ^ (-(e + 1)).toNat) * (Q * 2 ^ e.toNat) := by
    rw [Nat.mul_le_mul_right_iff h1]; omega
  rw [e1, h]
  have e2 : 2 * (m * (Q * 2 ^ (e + 1).toNat)) * (Q * 2 ^ e.toNat) = 2 * m * (Q * 2 ^ e.toNat) * (Q * 2 ^ (e + 1).toNat) := by ac_rfl
  rw [e2, Nat.mul_le_mul_right_iff h2]

theorem f_antitone (P Q : Nat) (hQ : 0 < Q) (e : Int) : ∀ j : Nat, fAt P Q (e + j) * 2 ^ j ≤ fAt P Q e
  | 0 => by simp
  | j + 1 => by
    have h := f_antitone P Q hQ e j
    have h2 := (f_next P Q hQ (e + j) (fAt P Q (e + j + 1))).1 (Nat.le_refl _)
    have e1 : e + ((j + 1 : Nat) : Int) = e + j + 1 := by omega
    rw [e1]
    rw [Nat.pow_succ, Nat.mul_comm (2 ^ j) 2, ← Nat.mul_assoc]
    refine Nat.le_trans ?_ h
    rw [Nat.mul_comm _ 2]
    exact Nat.mul_le_mul_right _ h2

/-- the place is one alone. -/
theorem Place.one {P Q : Nat} (hQ : 0 < Q) {a b : Int} (h : Place P Q a) (h' : Place P Q b) : a = b := by
  have key : ∀ a b : Int, Place P Q a → Place P Q b → ¬ a < b := by
    intro a b h h' hab
    obtain ⟨j, hj⟩ : ∃ j : Nat, b = a + 1 + (j : Nat) := ⟨(b - a - 1).toNat, by omega⟩
    have h1 := f_antitone P Q hQ (a + 1) j
    rw [← hj] at h1
    have h2 := (f_next P Q hQ a (fAt P Q (a + 1))).1 (Nat.le_refl _)
    have h3 : fAt P Q b ≤ fAt P Q b * 2 ^ j := Nat.le_mul_of_pos_right _ (Nat.pow_pos (by omega))
    have h4 := h.lt
    have h5 := h'.full
    have h6 := h.ge
    omega
  have := key a b h h'
  have := key b a h' h
  omega

/-- the same number: n'*2^e' is n*2^e. -/
def sameNum (n' : Nat) (e' : Int) (n : Nat) (e : Int) : Prop := (n' = n ∧ e' = e) ∨ (n' = 9007199254740992 ∧ n = 4503599627370496 ∧ e = e' + 1)

theorem nAt_cases (P Q : Nat) (e : Int) : (nAt P Q e = fAt P Q e + 1 ∧ (Q * 2 ^ e.toNat < 2 * rAt P Q e ∨ (2 * rAt P Q e = Q * 2 ^ e.toNat ∧ fAt P Q e % 2 = 1))) ∨
    (nAt P Q e = fAt P Q e ∧ (2 * rAt P Q e < Q * 2 ^ e.toNat ∨ (2 * rAt P Q e = Q * 2 ^ e.toNat ∧ fAt P Q e % 2 = 0))) := by
  unfold nAt
  split
  · rename_i h; exact .inl ⟨rfl, h⟩
  · rename_i h; right; refine ⟨rfl, ?_⟩; omega

theorem f_spec (P Q : Nat) (hQ : 0 < Q) (e : Int) : fAt P Q e * (Q * 2 ^ e.toNat) + rAt P Q e = P * 2 ^ (-e).toNat ∧ rAt P Q e < Q * 2 ^ e.toNat := by
  have h1 : 0 < Q * 2 ^ e.toNat := Nat.mul_pos hQ (Nat.pow_pos (by omega))
  refine ⟨?_, Nat.mod_lt _ h1⟩
  have := Nat.div_add_mod (P * 2 ^ (-e).toNat) (Q * 2 ^ e.toNat)
  rwa [Nat.mul_comm (Q * 2 ^ e.toNat)] at this

/-- ROUNDED IT IS x JUST WHERE IT TELLS x. -/
theorem ratio_same (P Q : Nat) (hQ : 0 < Q) (e' : Int) (hp : Place P Q e') (n : Nat) (e : Int) (hx : Parts n e) : sameNum (nAt P Q e') e' n e ↔ inR n e (yloOf n e) (yhiOf n) P Q := by
  obtain ⟨x1, x2, x3, x4, x5⟩ := hx
  obtain ⟨s1, s2⟩ := f_spec P Q hQ e
  have hc := nAt_cases P Q e
  obtain ⟨A, hA⟩ : ∃ A, P * 2 ^ (-e).toNat = A := ⟨_, rfl⟩
  obtain ⟨B, hB⟩ : ∃ B, Q * 2 ^ e.toNat = B := ⟨_, rfl⟩
  have hB0 : 0 < B := by rw [← hB]; exact Nat.mul_pos hQ (Nat.pow_pos (by omega))
  have hI : inR n e (yloOf n e) (yhiOf n) P Q ↔ if n % 2 = 1 then yloOf n e * B < 4 * A ∧ 4 * A < yhiOf n * B else yloOf n e * B ≤ 4 * A ∧ 4 * A ≤ yhiOf n * B := by
    unfold inR
    rw [Nat.mul_comm (2 ^ e.toNat) Q, hB, Nat.mul_assoc 4, hA]
  rw [hI]
  rw [hA, hB] at s1
  rw [hB] at s2 hc
  obtain ⟨f, hf⟩ : ∃ f, fAt P Q e = f := ⟨_, rfl⟩
  obtain ⟨r, hr⟩ : ∃ r, rAt P Q e = r := ⟨_, rfl⟩
  rw [hf, hr] at s1 hc
  rw [hr] at s2
  have hi : yhiOf n * B = 4 * (n * B) + 2 * B := by unfold yhiOf; rw [Nat.add_mul, Nat.mul_assoc]
  have mono : ∀ a b, a ≤ b → a * B ≤ b * B := fun a b h => Nat.mul_le_mul_right B h
  have strict : ∀ a b, a < b → a * B + B ≤ b * B := fun a b h => by have := Nat.mul_le_mul_right B (show a + 1 ≤ b from h); rwa [Nat.succ_mul] at this
  have n1 : (n - 1) * B + B = n * B := by
    have : n - 1 + 1 = n := by omega
    calc (n - 1) * B + B = (n - 1 + 1) * B := (Nat.succ_mul _ _).symm
      _ = n * B := by rw [this]
  by_cases hs : n = 4503599627370496 ∧ -1074 < e
  · -- a power of two: its lower neighbour is nearer
    obtain ⟨hn, he⟩ := hs
    have lo : yloOf n e * B + B = 4 * (n * B) := by
      unfold yloOf
      rw [if_pos ⟨hn, he⟩, ← Nat.succ_mul, ← Nat.mul_assoc, hn]
    rw [if_neg (by omega)]
    have hsh := shift P Q (e - 1)
    rw [show e - 1 + 1 = e by omega, hA, hB] at hsh
    obtain ⟨t1, t2⟩ := f_spec P Q hQ (e - 1)
    have hc' := nAt_cases P Q (e - 1)
    obtain ⟨A', hA'⟩ : ∃ A, P * 2 ^ (-(e - 1)).toNat = A := ⟨_, rfl⟩
    obtain ⟨B', hB'⟩ : ∃ B, Q * 2 ^ (e - 1).toNat = B := ⟨_, rfl⟩
    have hB0' : 0 < B' := by rw [← hB']; exact Nat.mul_pos hQ (Nat.pow_pos (by omega))
    rw [hA', hB'] at hsh t1
    rw [hB'] at t2 hc'
    obtain ⟨f', hf'⟩ : ∃ f, fAt P Q (e - 1) = f := ⟨_, rfl⟩
    obtain ⟨r', hr'⟩ : ∃ r, rAt P Q (e - 1) = r := ⟨_, rfl⟩
    rw [hf', hr'] at t1 hc'
    rw [hr'] at t2
    -- 2A/B = A'/B'
    have tr : ∀ m, m * B ≤ 4 * A ↔ m * B' ≤ 2 * A' := fun m => by
      have e1 : m * B * B' = m * B' * B := by ac_rfl
      have e2 : 4 * A * B' = 2 * A' * B := by
        have : 4 * A * B' = 2 * (2 * A * B') := by rw [← Nat.mul_assoc, ← Nat.mul_assoc]
        rw [this, hsh, Nat.mul_assoc]
      have e3 : m * B * B' ≤ 4 * A * B' ↔ m * B ≤ 4 * A := Nat.mul_le_mul_right_iff hB0'
      have e4 : m * B' * B ≤ 2 * A' * B ↔ m * B' ≤ 2 * A' := Nat.mul_le_mul_right_iff hB0
      rw [← e3, ← e4, e1, e2]
    have trn : ∀ m, 4 * A < m * B ↔ 2 * A' < m * B' := fun m => by
      have := tr m
      omega
    have mono' : ∀ a b, a ≤ b → a * B' ≤ b * B' := fun a b h => Nat.mul_le_mul_right B' h
    constructor
    · rintro (⟨h1, rfl⟩ | ⟨h1, _, h3⟩)
      · have hfull := hp.full
        rw [hf] at hfull
        rcases hc with ⟨c1, c2⟩ | ⟨c1, c2⟩
        · omega
        · have : f = n := by omega
          subst this
          omega
      · obtain rfl : e' = e - 1 := by omega
        have hlt := hp.lt
        rw [hf'] at hlt
        rcases hc' with ⟨c1, c2⟩ | ⟨c1, c2⟩
        · have : f' = 9007199254740991 := by omega
          subst this
          have a1 := (tr 18014398509481983).2 (by omega)
          have a2 := (trn 18014398509481984).2 (by omega)
          have a3 : yloOf n e = 18014398509481983 := by unfold yloOf; rw [if_pos ⟨hn, he⟩]
          have a4 : n * B = 4503599627370496 * B := by rw [hn]
          rw [a3]
          omega
        · omega
    · rintro ⟨h1, h2⟩
      have a3 : yloOf n e = 18014398509481983 := by unfold yloOf; rw [if_pos ⟨hn, he⟩]
      have a4 : n * B = 4503599627370496 * B := by rw [hn]
      rcases Nat.lt_or_ge A (n * B) with h | h
      · right
        have b1 := (tr 18014398509481983).1 (by rw [a3] at h1; exact h1)
        have b2 := (trn 18014398509481984).1 (by omega)
        have hf1 : f' = 9007199254740991 := by
          rcases Nat.lt_trichotomy f' 9007199254740991 with h | h | h
          · have := mono' (f' + 1) 9007199254740991 h
            rw [Nat.succ_mul] at this
            omega
          · exact h
          · have := mono' 9007199254740992 f' h
            omega
        subst hf1
        have hpl : Place P Q (e - 1) := ⟨by omega, by omega, by omega⟩
        obtain rfl : e' = e - 1 := hp.one hQ hpl
        refine ⟨?_, hn, by omega⟩
        rcases hc' with ⟨c1, c2⟩ | ⟨c1, c2⟩ <;> omega
      · left
        have hf1 : f = n := by
          rcases Nat.lt_trichotomy f n with h | h | h
          · have := strict f n h
            omega
          · exact h
          · have := strict n f h
            omega
        subst hf1
        have hpl : Place P Q e := ⟨x3, by omega, by omega⟩
        obtain rfl : e' = e := hp.one hQ hpl
        refine ⟨?_, rfl⟩
        rcases hc with ⟨c1, c2⟩ | ⟨c1, c2⟩ <;> omega
  · have lo : yloOf n e * B + 2 * B = 4 * (n * B) := by
      unfold yloOf
      rw [if_neg hs, ← Nat.add_mul, ← Nat.mul_assoc]
      congr 1; omega
    constructor
    · rintro (⟨h1, rfl⟩ | ⟨h1, h2, h3⟩)
      · rcases hc with ⟨c1, c2⟩ | ⟨c1, c2⟩
        · obtain rfl : f = n - 1 := by omega
          split <;> omega
        · obtain rfl : f = n := by omega
          split <;> omega
      · have := hp.ge
        omega
    · intro h
      left
      have h4 : yloOf n e * B ≤ 4 * A ∧ 4 * A ≤ yhiOf n * B := by
        split at h <;> omega
      have hf1 : f = n ∨ f = n - 1 := by
        rcases Nat.lt_trichotomy f n with h | h | h
        · rcases Nat.lt_or_ge f (n - 1) with h' | h'
          · have := strict f (n - 1) h'
            omega
          · omega
        · exact .inl h
        · have := strict n f h
          omega
      have hpl : Place P Q e := ⟨x3, by omega, by omega⟩
      obtain rfl : e' = e := hp.one hQ hpl
      refine ⟨?_, rfl⟩
      rcases hf1 with h5 | h5
      · subst h5
        rcases hc with ⟨c1, c2⟩ | ⟨c1, c2⟩
        · split at h <;> omega
        · omega
      · subst h5
        rcases hc with ⟨c1, c2⟩ | ⟨c1, c2⟩
        · omega
        · split at h <;> omega
end Go.Proofs.YtdijkobiffhgcaaGreatDoor.Nu

namespace Go.Proofs.YtdijkobiffhgcaaGreatDoor.Nu

/-- the digits, the lowest first. -/
def decR (n : Nat) : List Nat := if h : n = 0 then [] else n % 10 :: decR (n / 10)
termination_by n
decreasing_by omega

theorem decR_zero : decR 0 = [] := by unfold decR; simp
theorem decR_step (n : Nat) (h : n ≠ 0) : decR n = n % 10 :: decR (n / 10) := by
  conv => lhs; unfold decR
  rw [dif_neg h]

/-- as bytes, the highest first. -/
def dec (n : Nat) : List UInt8 := (decR n).reverse.map fun d => UInt8.ofNat (48 + d)

theorem decR_ten (n : Nat) (h : n ≠ 0) : decR (n * 10) = 0 :: decR n := by
  rw [decR_step _ (by omega), show n * 10 % 10 = 0 by omega, show n * 10 / 10 = n by omega]

theorem decR_pow (n : Nat) (h : n ≠ 0) : ∀ t, decR (n * 10 ^ t) = List.replicate t 0 ++ decR n
  | 0 => by simp
  | t + 1 => by
    rw [Nat.pow_succ, ← Nat.mul_assoc, decR_ten _ (by have := Nat.mul_pos (Nat.pos_of_ne_zero h) (Nat.pow_pos (n := t) (show 0 < 10 by omega)); omega), decR_pow n h t]
    rfl

theorem dec_pow (n : Nat) (h : n ≠ 0) (t : Nat) : dec (n * 10 ^ t) = dec n ++ List.replicate t 48 := by
  unfold dec
  rw [decR_pow n h t]
  simp

theorem decR_lt (n : Nat) : n < 10 ^ (decR n).length := by
  induction n using Nat.strongRecOn with
  | _ n ih =>
    by_cases h : n = 0
    · subst h; simp [decR_zero]
    · rw [decR_step n h, List.length_cons, Nat.pow_succ]
      have := ih (n / 10) (by omega)
      omega
theorem decR_ge (n : Nat) (h : n ≠ 0) : 10 ^ ((decR n).length - 1) ≤ n := by
  induction n using Nat.strongRecOn with
  | _ n ih =>
    rw [decR_step n h, List.length_cons, Nat.add_sub_cancel]
    by_cases h1 : n / 10 = 0
    · rw [h1, decR_zero]; simp; omega
    · have := ih (n / 10) (by omega) h1
      obtain ⟨k, hk⟩ : ∃ k, (decR (n / 10)).length = k + 1 := by
        rw [decR_step _ h1]; exact ⟨_, rfl⟩
      rw [hk, Nat.add_sub_cancel] at this
      rw [hk, Nat.pow_succ]
      omega

theorem dec_length (n : Nat) : (dec n).length = (decR n).length := by simp [dec]

theorem dec_pos (n : Nat) (h : n ≠ 0) : 0 < (dec n).length := by rw [dec_length, decR_step n h]; simp

/-- how long it is. -/
theorem dec_len_iff (n k : Nat) (h : n ≠ 0) : (dec n).length = k + 1 ↔ 10 ^ k ≤ n ∧ n < 10 ^ (k + 1) := by
  rw [dec_length]
  have a := decR_lt n
  have b := decR_ge n h
  have c := dec_pos n h
  rw [dec_length] at c
  constructor
  · intro hl
    rw [hl] at a b
    exact ⟨b, a⟩
  · rintro ⟨h1, h2⟩
    rcases Nat.lt_trichotomy (decR n).length (k + 1) with l | l | l
    · have : 10 ^ (decR n).length ≤ 10 ^ k := Nat.pow_le_pow_right (by omega) (by omega)
      omega
    · exact l
    · have : 10 ^ (k + 1) ≤ 10 ^ ((decR n).length - 1) := Nat.pow_le_pow_right (by omega) (by omega)
      omega

/-- the last digit. -/
theorem dec_last (n : Nat) (h : n ≠ 0) : (dec n).getLast? = some (UInt8.ofNat (48 + n % 10)) := by
  unfold dec
  rw [decR_step n h]
  simp

/-- HOW A NUMBER IS WRITTEN, of its digits and its point. -/
def textOf (s : List UInt8) (n : Int) (expo : Int → List UInt8) : List UInt8 :=
  if (s.length : Int) ≤ n ∧ n ≤ 21 then s ++ List.replicate (n - s.length).toNat 48
  else if 0 < n ∧ n ≤ 21 then s.take n.toNat ++ 46 :: s.drop n.toNat
  else if -6 < n ∧ n ≤ 0 then 48 :: 46 :: List.replicate (-n).toNat 48 ++ s
  else (if s.length = 1 then s else s.take 1 ++ 46 :: s.drop 1) ++ expo (n - 1)

/-- of a whole number below 2^53: its own digits. -/
theorem text_whole (m t : Nat) (hm : m ≠ 0) (hlt : m * 10 ^ t < 9007199254740992) (expo : Int → List UInt8) : textOf (dec m) ((dec m).length + t) expo = dec (m * 10 ^ t) := by
  have h0 : m * 10 ^ t ≠ 0 := by have := Nat.mul_pos (Nat.pos_of_ne_zero hm) (Nat.pow_pos (n := t) (show 0 < 10 by omega)); omega
  have hl : (dec (m * 10 ^ t)).length ≤ 16 := by
    rcases Nat.lt_or_ge 16 (dec (m * 10 ^ t)).length with h | h
    · have b := decR_ge _ h0
      rw [← dec_length] at b
      have : 10 ^ 16 ≤ 10 ^ ((dec (m * 10 ^ t)).length - 1) := Nat.pow_le_pow_right (by omega) (by omega)
      omega
    · exact h
  rw [dec_pow m hm t, List.length_append, List.length_replicate] at hl
  unfold textOf
  rw [if_pos ⟨by omega, by omega⟩, dec_pow m hm t]
  congr 2
  omega
end Go.Proofs.YtdijkobiffhgcaaGreatDoor.Nu

namespace Go.Proofs.YtdijkobiffhgcaaGreatDoor.Nu

def pOf (n : Nat) (e : Int) : Int := if n = 4503599627370496 ∧ -1074 < e then -skew e else -lp2 e

/-- what shortFloat hands back: the digits, and the level. -/
def shortOf (n : Nat) (e : Int) : Nat × Int := shortD n e (yloOf n e) (yhiOf n) (pOf n e)

theorem main_best (n : Nat) (e : Int) (h : Parts n e) : ∃ j d', (shortOf n e).1 = d' * 10 ^ j ∧ d' % 10 ≠ 0 ∧ Best n e (yloOf n e) (yhiOf n) ((shortOf n e).2 - (j : Nat)) d' := by
  unfold shortOf pOf yloOf yhiOf
  by_cases hs : n = 4503599627370496 ∧ -1074 < e
  · rw [if_pos hs, if_pos hs]
    obtain ⟨rfl, he⟩ := hs
    exact best_skew e he h.le
  · rw [if_neg hs, if_neg hs]
    obtain ⟨u1, u2⟩ := unit_ok e h.ge h.le
    exact best_even n e _ h.pos u1 u2

theorem ends (n : Nat) (e : Int) (h : Parts n e) : 0 < yloOf n e ∧ yloOf n e < 4 * n ∧ 4 * n < yhiOf n ∧ yhiOf n ≤ yloOf n e + 4 ∧ 4 * n ≤ yloOf n e + 2 := by
  have := h.pos
  unfold yloOf yhiOf
  split <;> omega

/-- the digits (the zeros at the end struck) and the point. -/
structure Shown (n : Nat) (e : Int) (s : List UInt8) (pt : Int) : Prop where
  ex : ∃ (j : Nat) (d' : Nat), (shortOf n e).1 = d' * 10 ^ j ∧ d' % 10 ≠ 0 ∧ s = dec d' ∧ pt = (dec d').length + (j : Int) - (shortOf n e).2

theorem shown (n : Nat) (e : Int) (h : Parts n e) : ∃ s pt, Shown n e s pt := by
  obtain ⟨j, d', e1, e2, _⟩ := main_best n e h
  exact ⟨_, _, ⟨j, d', e1, e2, rfl, rfl⟩⟩

/-- the zeros at the end are told by the number. -/
theorem strip_one {d d' : Nat} {j j' : Nat} (h : d * 10 ^ j = d' * 10 ^ j') (h1 : d % 10 ≠ 0) (h2 : d' % 10 ≠ 0) : d = d' ∧ j = j' := by
  have key : ∀ (d d' j j' : Nat), d * 10 ^ j = d' * 10 ^ j' → d' % 10 ≠ 0 → ¬ j' < j → j = j' ∨ j < j' := by intro d d' j j' _ _ h; omega
  have no : ∀ (d d' j j' : Nat), d * 10 ^ j = d' * 10 ^ j' → d' % 10 ≠ 0 → ¬ j' < j := by
    intro d d' j j' h h2 hlt
    apply h2
    have e1 : d * 10 ^ (j - j') = d' := by
      have : 10 ^ j = 10 ^ (j - j') * 10 ^ j' := by rw [← Nat.pow_add]; congr 1; omega
      rw [this, ← Nat.mul_assoc] at h
      exact Nat.eq_of_mul_eq_mul_right (Nat.pow_pos (by omega)) h
    rw [← e1, pow10_ten _ (by omega)]
    omega
  have a := no d d' j j' h h2
  have b := no d' d j' j h.symm h1
  obtain rfl : j = j' := by omega
  exact ⟨Nat.eq_of_mul_eq_mul_right (Nat.pow_pos (by omega)) h, rfl⟩

theorem Shown.best {n : Nat} {e : Int} {s : List UInt8} {pt : Int} (h : Shown n e s pt) (hx : Parts n e) : ∃ d' p, Best n e (yloOf n e) (yhiOf n) p d' ∧ s = dec d' ∧ pt = (dec d').length - p := by
  obtain ⟨j, d', e1, e2, rfl, rfl⟩ := h.ex
  obtain ⟨j', d'', f1, f2, f3⟩ := main_best n e hx
  rw [e1] at f1
  obtain ⟨rfl, rfl⟩ := strip_one f1 e2 f2
  exact ⟨d', _, f3, rfl, by omega⟩

/-- WHERE THE REFERENCE TAKES ITS OWN WAY: k the first level at which one of the two tells the number. -/
theorem law_few {n : Nat} {e : Int} {s : List UInt8} {pt : Int} (h : Shown n e s pt) (hx : Parts n e) (n0 : Int) (hpt : IsPoint n e n0) (k : Nat) (hk : 1 ≤ k)
    (hok : inI n e (yloOf n e) (yhiOf n) (k - n0) (lowAt n e (k - n0)) ∨ inI n e (yloOf n e) (yhiOf n) (k - n0) (lowAt n e (k - n0) + 1))
    (hfirst : ∀ k' : Nat, 1 ≤ k' → k' < k → ¬ inI n e (yloOf n e) (yhiOf n) (k' - n0) (lowAt n e (k' - n0)) ∧ ¬ inI n e (yloOf n e) (yhiOf n) (k' - n0) (lowAt n e (k' - n0) + 1)) :
    if k < (dec (taken n e (yloOf n e) (yhiOf n) (k - n0))).length then s = [49] ∧ pt = n0 + 1 else s = dec (taken n e (yloOf n e) (yhiOf n) (k - n0)) ∧ pt = n0 := by
  obtain ⟨d', p, hb, rfl, rfl⟩ := h.best hx
  obtain ⟨w1, w2, w3, w4, _⟩ := ends n e hx
  have hsm : n < 10 → inI n e (yloOf n e) (yhiOf n) (-n0) 1 → lowAt n e (1 - n0) = 9 ∧ den e (1 - n0) < 2 * leftAt n e (1 - n0) := by
    intro h9 h10
    have he : e = -1074 := by have := hx.full; omega
    subst he
    have hy : yloOf n (-1074) = 4 * n - 2 := by unfold yloOf; rw [if_neg (by omega)]
    rw [hy] at h10
    exact small_ok n n0 hx.pos h9 hpt h10
  have lowge : 10 ^ (k - 1) ≤ lowAt n e (k - n0) := by
    unfold lowAt
    apply (Nat.le_div_iff_mul_le (den_pos _ _)).2
    have a := level_ge e (k - n0) (k - 1) n 1
    rw [show (k : Int) - n0 - ((k - 1 : Nat) : Int) = 1 - n0 by omega, Nat.one_mul, Nat.one_mul] at a
    exact a.2 hpt.ge
  have tge : lowAt n e (k - n0) ≤ taken n e (yloOf n e) (yhiOf n) (k - n0) := by unfold taken; split <;> omega
  have p1 : 1 ≤ 10 ^ (k - 1) := Nat.one_le_pow _ _ (by omega)
  rcases best_ref n e _ _ n0 hx.pos w1 w2 w3 w4 hpt hsm k hk hok hfirst with ⟨b1, b2⟩ | ⟨b1, b2, b3⟩
  · have hl : (dec (taken n e (yloOf n e) (yhiOf n) (k - n0))).length = k := by
      have := (dec_len_iff (taken n e (yloOf n e) (yhiOf n) (k - n0)) (k - 1) (by omega)).2 ⟨by omega, by rw [show k - 1 + 1 = k by omega]; exact b1⟩
      omega
    rw [if_neg (by omega)]
    obtain ⟨rfl, rfl⟩ := hb.one b2
    exact ⟨rfl, by omega⟩
  · have hl : (dec 10).length = 2 := (dec_len_iff 10 1 (by omega)).2 ⟨by decide, by decide⟩
    have hl1 : (dec 1).length = 1 := (dec_len_iff 1 0 (by omega)).2 ⟨by decide, by decide⟩
    rw [b2, hl, if_pos (by omega)]
    obtain ⟨rfl, rfl⟩ := hb.one b3
    refine ⟨?_, by omega⟩
    unfold dec
    rw [decR_step 1 (by omega), show 1 / 10 = 0 by decide, decR_zero]
    rfl

/-- WHOLE NUMBERS. -/
theorem law_whole {n : Nat} {e : Int} {s : List UInt8} {pt : Int} (h : Shown n e s pt) (hx : Parts n e) (he : e ≤ 0) (w : Nat) (hw : w * 2 ^ (-e).toNat = n) (expo : Int → List UInt8) : textOf s pt expo = dec w := by
  obtain ⟨d', p, hb, rfl, rfl⟩ := h.best hx
  obtain ⟨w1, w2, w3, w4, w5⟩ := ends n e hx
  have hw0 : 0 < w := by
    rcases Nat.eq_zero_or_pos w with h0 | h0
    · have := hx.pos
      rw [h0, Nat.zero_mul] at hw
      omega
    · exact h0
  obtain ⟨t, m, rfl, hm10⟩ := strip w hw0
  have b := best_whole n e _ _ he w2 w3 w5 (by unfold yhiOf; omega) m t hw hm10
  obtain ⟨rfl, rfl⟩ := hb.one b
  have hlt : d' * 10 ^ t < 9007199254740992 := by
    have := Nat.le_mul_of_pos_right (d' * 10 ^ t) (Nat.pow_pos (n := (-e).toNat) (show 0 < 2 by omega))
    have := hx.lt
    omega
  have := text_whole d' t (by intro h0; rw [h0] at hm10; omega) hlt expo
  rw [← this]
  congr 1
  omega
end Go.Proofs.YtdijkobiffhgcaaGreatDoor.Nu

namespace Go.Proofs.YtdijkobiffhgcaaGreatDoor.Nu

def val : List Nat → Nat
  | [] => 0
  | d :: r => d + 65536 * val r

def dg (n : Nat) : List Nat := if h : n = 0 then [] else n % 65536 :: dg (n / 65536)
termination_by n
decreasing_by omega

theorem dg_zero : dg 0 = [] := by unfold dg; simp
theorem dg_step (n : Nat) (h : n ≠ 0) : dg n = n % 65536 :: dg (n / 65536) := by
  conv => lhs; unfold dg
  rw [dif_neg h]
theorem val_dg (n : Nat) : val (dg n) = n := by
  induction n using Nat.strongRecOn with
  | _ n ih =>
    by_cases h : n = 0
    · subst h; rw [dg_zero]; rfl
    · rw [dg_step n h]
      show n % 65536 + 65536 * val (dg (n / 65536)) = n
      rw [ih _ (by omega)]
      omega
theorem dg_digit (n : Nat) : ∀ d ∈ dg n, d < 65536 := by
  induction n using Nat.strongRecOn with
  | _ n ih =>
    by_cases h : n = 0
    · subst h; rw [dg_zero]; intro d hd; cases hd
    · rw [dg_step n h]
      intro d hd
      rcases List.mem_cons.1 hd with rfl | hd
      · omega
      · exact ih _ (by omega) d hd
theorem dg_nil (n : Nat) : dg n = [] ↔ n = 0 := by
  constructor
  · intro h
    have := val_dg n
    rw [h] at this
    exact this.symm
  · rintro rfl; exact dg_zero
theorem val_append (a b : List Nat) : val (a ++ b) = val a + 65536 ^ a.length * val b := by
  induction a with
  | nil => simp [val]
  | cons d r ih =>
    show d + 65536 * val (r ++ b) = d + 65536 * val r + 65536 ^ (r.length + 1) * val b
    rw [ih, Nat.pow_succ, Nat.mul_add]
    have : 65536 * (65536 ^ r.length * val b) = 65536 ^ r.length * 65536 * val b := by ac_rfl
    omega
theorem val_lt (a : List Nat) (h : ∀ d ∈ a, d < 65536) : val a < 65536 ^ a.length := by
  induction a with
  | nil => simp [val]
  | cons d r ih =>
    have h1 := ih (fun d hd => h d (List.mem_cons_of_mem _ hd))
    have h2 := h d List.mem_cons_self
    show d + 65536 * val r < 65536 ^ (r.length + 1)
    rw [Nat.pow_succ]
    omega
/-- the list of a number whose last digit is not 0. -/
theorem dg_val (a : List Nat) (h : ∀ d ∈ a, d < 65536) (hl : ∀ d, a.getLast? = some d → d ≠ 0) : dg (val a) = a := by
  induction a with
  | nil => exact dg_zero
  | cons d r ih =>
    have h2 := h d List.mem_cons_self
    have hr : dg (val r) = r := ih (fun d hd => h d (List.mem_cons_of_mem _ hd)) (fun x hx => hl x (by
      cases r with
      | nil => cases hx
      | cons y s => rw [List.getLast?_cons_cons]; exact hx))
    have hne : val (d :: r) ≠ 0 := by
      show d + 65536 * val r ≠ 0
      cases r with
      | nil =>
        have := hl d rfl
        omega
      | cons y s =>
        intro h0
        have : val (y :: s) = 0 := by omega
        rw [this, dg_zero] at hr
        cases hr
    rw [dg_step _ hne]
    show (d + 65536 * val r) % 65536 :: dg ((d + 65536 * val r) / 65536) = d :: r
    rw [show (d + 65536 * val r) % 65536 = d by omega, show (d + 65536 * val r) / 65536 = val r by omega, hr]
/-- zeros at the end count for nothing. -/
theorem val_zeros (a : List Nat) (k : Nat) : val (a ++ List.replicate k 0) = val a := by
  have : val (List.replicate k 0) = 0 := by
    induction k with
    | zero => rfl
    | succ k ih => show 0 + 65536 * val (List.replicate k 0) = 0; rw [ih]
  rw [val_append, this]; simp
/-- cut: the digits of the value. -/
theorem dg_cut (a : List Nat) (h : ∀ d ∈ a, d < 65536) (k : Nat) (hk : k ≤ a.length) (hz : ∀ j, k ≤ j → j < a.length → a.getD j 0 = 0) (hl : k = 0 ∨ a.getD (k - 1) 0 ≠ 0) : dg (val a) = a.take k := by
  have e : a = a.take k ++ List.replicate (a.length - k) 0 := by
    conv => lhs; rw [← List.take_append_drop k a]
    congr 1
    apply List.ext_getElem
    · simp
    · intro i h1 h2
      rw [List.getElem_replicate, List.getElem_drop]
      have := hz (k + i) (by omega) (by simp at h1; omega)
      rw [List.getD, List.getElem?_eq_getElem (by simp at h1; omega)] at this
      simpa using this
  have ev : val a = val (a.take k) := (congrArg val e).trans (val_zeros _ _)
  rw [ev]
  apply dg_val
  · exact fun d hd => h d (List.mem_of_mem_take hd)
  · intro d hd
    rcases hl with rfl | hl
    · simp at hd
    · intro h0
      apply hl
      by_cases hk0 : k = 0
      · subst hk0; simp at hd
      · have : (a.take k)[k - 1]? = some d := by
          rw [List.getLast?_eq_getElem?] at hd
          rwa [List.length_take, Nat.min_eq_left hk] at hd
        rw [List.getElem?_take_of_lt (by omega)] at this
        rw [List.getD, this, h0]
        rfl

theorem dg_len (k : Nat) : ∀ x, x < 65536 ^ k → (dg x).length ≤ k := by
  induction k with
  | zero => intro x hx; have : x = 0 := by simpa using hx
            subst this; rw [dg_zero]; exact Nat.le_refl _
  | succ k ih =>
    intro x hx
    by_cases h : x = 0
    · subst h; rw [dg_zero]; exact Nat.zero_le _
    · rw [dg_step x h, List.length_cons]
      have := ih (x / 65536) (by rw [Nat.pow_succ] at hx; omega)
      omega
theorem dg_mono (a b : Nat) (h : a ≤ b) : (dg a).length ≤ (dg b).length := by
  have := val_lt (dg b) (dg_digit b)
  rw [val_dg] at this
  exact dg_len _ _ (by omega)

theorem val_split (a : List Nat) (i : Nat) (h : i < a.length) : val a = val (a.take i) + 65536 ^ i * (a.getD i 0 + 65536 * val (a.drop (i + 1))) := by
  have e : a = a.take i ++ (a.getD i 0 :: a.drop (i + 1)) := by
    conv => lhs; rw [← List.take_append_drop i a]
    rw [List.drop_eq_getElem_cons h]
    simp [List.getD, List.getElem?_eq_getElem h]
  have hl : (a.take i).length = i := by rw [List.length_take]; omega
  have : val (a.take i ++ (a.getD i 0 :: a.drop (i + 1))) = val (a.take i) + 65536 ^ i * (a.getD i 0 + 65536 * val (a.drop (i + 1))) := by
    rw [val_append, hl]; rfl
  rw [← this, ← e]

/-- the highest digit that differs decides. -/
theorem val_lt_at (a b : List Nat) (i : Nat) (ha : ∀ d ∈ a, d < 65536) (hi : i < a.length) (hl : a.length = b.length) (hs : ∀ j, i < j → j < a.length → a.getD j 0 = b.getD j 0) (h : a.getD i 0 < b.getD i 0) : val a < val b := by
  have hd : a.drop (i + 1) = b.drop (i + 1) := by
    apply List.ext_getElem
    · simp; omega
    · intro j h1 h2
      rw [List.getElem_drop, List.getElem_drop]
      have := hs (i + 1 + j) (by omega) (by simp at h1; omega)
      rw [List.getD, List.getD, List.getElem?_eq_getElem (by simp at h1; omega), List.getElem?_eq_getElem (by simp at h2; omega)] at this
      simpa using this
  rw [val_split a i hi, val_split b i (by omega), hd]
  have hlt := val_lt (a.take i) (fun d h => ha d (List.mem_of_mem_take h))
  rw [List.length_take, Nat.min_eq_left (by omega)] at hlt
  obtain ⟨p, hp⟩ : ∃ p, 65536 ^ i = p := ⟨_, rfl⟩
  rw [hp] at hlt ⊢
  obtain ⟨x, hx⟩ : ∃ x, a.getD i 0 = x := ⟨_, rfl⟩
  obtain ⟨y, hy⟩ : ∃ y, b.getD i 0 = y := ⟨_, rfl⟩
  rw [hx, hy] at h ⊢
  have m := Nat.mul_le_mul_left p (show x + 1 + 65536 * val (b.drop (i + 1)) ≤ y + 65536 * val (b.drop (i + 1)) by omega)
  rw [show x + 1 + 65536 * val (b.drop (i + 1)) = (x + 65536 * val (b.drop (i + 1))) + 1 by omega, Nat.mul_add, Nat.mul_one] at m
  omega
theorem val_eq_at (a b : List Nat) (hl : a.length = b.length) (hs : ∀ j, j < a.length → a.getD j 0 = b.getD j 0) : a = b := by
  apply List.ext_getElem hl
  intro j h1 h2
  have := hs j h1
  rw [List.getD, List.getD, List.getElem?_eq_getElem h1, List.getElem?_eq_getElem h2] at this
  simpa using this
end Go.Proofs.YtdijkobiffhgcaaGreatDoor.Nu
