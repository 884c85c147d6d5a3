/-
  The first guess of point: Floor of Log10 of a number above 0, as an integer: at most 65536. Conditions: none but the number's.
-/
import Derived.Test.YtdijkobiffhgcaaGreatDoorFltW
namespace Go.Proofs.YtdijkobiffhgcaaGreatDoor.Nu
open Go.RowKit Go.Lib

theorem cut_top (way : Ieee.Toward) (hw : way ≠ .even) (neg : Bool) (m j B : Nat) (hB : 1 ≤ B) (h : m ≤ B * 2 ^ j) : way.cut neg m j ≤ B := by
  unfold Ieee.Toward.cut
  rw [Nat.shiftLeft_eq, Nat.one_mul]
  obtain ⟨x, hx⟩ : ∃ x, min j (m.log2 + 2) = x := ⟨_, rfl⟩
  rw [hx]
  have hp : 0 < 2 ^ x := Nat.pow_pos (by omega)
  have key : m / 2 ^ x ≤ B ∧ (m / 2 ^ x = B → m % 2 ^ x = 0) := by
    by_cases hj : j ≤ m.log2 + 2
    · rw [show x = j by omega]
      have hpj : 0 < 2 ^ j := Nat.pow_pos (by omega)
      obtain ⟨p, hpp⟩ : ∃ p, 2 ^ j = p := ⟨_, rfl⟩
      rw [hpp] at h hpj ⊢
      have a : m / p ≤ B := by
        have := Nat.div_le_div_right (c := p) h
        rwa [Nat.mul_div_cancel _ hpj] at this
      refine ⟨a, fun e => ?_⟩
      have d := Nat.div_add_mod m p
      rw [e, Nat.mul_comm] at d
      omega
    · have hm : m < 2 ^ (m.log2 + 1) := by
        by_cases h0 : m = 0
        · subst h0; exact Nat.pow_pos (by omega)
        · exact ((Nat.log2_eq_iff h0 (k := m.log2)).1 rfl).2
      have a1 : 2 ^ (m.log2 + 1) ≤ 2 ^ x := Nat.pow_le_pow_right (by omega) (by omega)
      rw [Nat.div_eq_of_lt (by omega)]
      exact ⟨by omega, fun e => by omega⟩
  obtain ⟨low, hl⟩ : ∃ low, m / 2 ^ x = low := ⟨_, rfl⟩
  obtain ⟨rest, hr⟩ : ∃ rest, m % 2 ^ x = rest := ⟨_, rfl⟩
  simp only [hl, hr]
  rw [hl, hr] at key
  have one : ∀ b : Bool, (b = true → low < B) → low + b.toNat ≤ B := by
    intro b hb
    cases b
    · show low + 0 ≤ B; omega
    · have := hb rfl; show low + 1 ≤ B; omega
  cases way
  · exact absurd rfl hw
  · refine one _ (fun hb => ?_)
    have : rest ≠ 0 := by simp only [Bool.and_eq_true, bne_iff_ne] at hb; exact hb.2
    rcases Nat.lt_or_ge low B with g | g
    · exact g
    · exact absurd (key.2 (by omega)) this
  · refine one _ (fun hb => ?_)
    have : rest ≠ 0 := by simp only [Bool.and_eq_true, bne_iff_ne] at hb; exact hb.2
    rcases Nat.lt_or_ge low B with g | g
    · exact g
    · exact absurd (key.2 (by omega)) this
  · exact one _ (fun hb => by cases hb)

theorem vq_cut (m : Nat) (i : Int) (hi : -1074 ≤ i) (h : vq m i ≤ pw 16) : m <<< i.toNat ≤ 65536 * 2 ^ (-i).toNat := by
  unfold vq pw at h
  rw [Nat.shiftLeft_eq]
  by_cases h0 : 0 ≤ i
  · rw [show (-i).toNat = 0 by omega, Nat.pow_zero, Nat.mul_one]
    rw [show (i + 4000).toNat = i.toNat + (0 + 4000 : Int).toNat by omega, show (16 + 4000 : Int).toNat = 16 + (0 + 4000 : Int).toNat by omega, Nat.pow_add, Nat.pow_add, ← Nat.mul_assoc, show (2 : Nat) ^ 16 = 65536 by decide] at h
    exact Nat.le_of_mul_le_mul_right h (Nat.pow_pos (by omega))
  · rw [show i.toNat = 0 by omega, Nat.pow_zero, Nat.mul_one]
    rw [show (16 + 4000 : Int).toNat = 16 + ((-i).toNat + (i + 4000).toNat) by omega, Nat.pow_add, Nat.pow_add, ← Nat.mul_assoc, show (2 : Nat) ^ 16 = 65536 by decide] at h
    exact Nat.le_of_mul_le_mul_right h (Nat.pow_pos (by omega))

/-- Floor of a number up to 2^16 is up to 2^16. -/
theorem floor_mg (s : Bool) (m : Nat) (i : Int) (hi : -1074 ≤ i) (h : vq m i ≤ pw 16) : Mg (Ieee.double.write ((Ieee.Datum.number s m i).integral .down)) 16 := by
  have c := cut_top .down (by intro h; cases h) s (m <<< i.toNat) (-i).toNat 65536 (by omega) (vq_cut m i hi h)
  obtain ⟨M, hM⟩ : ∃ M, Ieee.Toward.cut .down s (m <<< i.toNat) (-i).toNat = M := ⟨_, rfl⟩
  rw [hM] at c
  have hv : vq M 0 ≤ pw 16 := by
    unfold vq pw
    rw [show (16 + 4000 : Int).toNat = 16 + (0 + 4000 : Int).toNat by omega, Nat.pow_add]
    rw [show (2 : Nat) ^ 16 = 65536 by decide]
    exact Nat.mul_le_mul_right _ c
  obtain ⟨m', i', a, b, d⟩ := nearest_mg s M 0 16 (by omega) (by omega) (by omega) hv
  refine ⟨s, m', i', ?_, b, d⟩
  rw [← a, ← hM]
  rfl

theorem toInt_mg (w : Nat) (h : Mg w 16) : ∃ n : Int, floatToIntVal .f64 w .i64 = some n ∧ -65536 ≤ n ∧ n ≤ 65536 := by
  obtain ⟨s, m, i, hr, hi, hv⟩ := h
  have c := cut_top .zero (by intro h; cases h) s (m <<< i.toNat) (-i).toNat 65536 (by omega) (vq_cut m i hi hv)
  obtain ⟨M, hM⟩ : ∃ M, Ieee.Toward.cut .zero s (m <<< i.toNat) (-i).toNat = M := ⟨_, rfl⟩
  rw [hM] at c
  have ht : (FloatKind.f64.decode w).toInt .zero = some (Ieee.signed s M 0) := by
    have : FloatKind.f64.decode w = .number s m i := hr
    rw [this, ← hM]
    rfl
  have ha := signed_abs s M 0
  rw [Nat.pow_zero, Nat.mul_one] at ha
  refine ⟨Ieee.signed s M 0, ?_, by omega, by omega⟩
  unfold floatToIntVal
  rw [ht]
  dsimp only
  have e1 : IntKind.i64.min = -9223372036854775808 := by decide
  have e2 : IntKind.i64.max = 9223372036854775807 := by decide
  rw [e1, e2, if_pos (by omega)]

set_option maxRecDepth 100000 in
theorem log10_any (b : Nat) (h0 : 0 < b) (h1 : b < 9218868437227405312) (w : World) : ∃ r, Mg r 16 ∧ Calls Tryz.prog 59 #[.float .f64 b] w fun s w' => s = .returned (.float .f64 r) ∧ w = w' := by
  obtain ⟨a, ha, hrun⟩ := run_log b h0 h1
  obtain ⟨r, hr, hm⟩ := mul_mg ha (mg_const 4601495173785380110 _ _ rfl (by decide) (by decide) (by decide)) (by omega) (by omega) (by omega)
  refine ⟨r, hm.mono (by omega), ?_⟩
  have hmul : ∀ w, (binOp .mul 23 (.float .f64 a) (.float .f64 4601495173785380110)).run Tryz.prog w = .ok (.float .f64 r) w := fun w => run_float_arith w .mul 23 .f64 _ _ _ hr
  have c : Calls Tryz.prog 113 #[.float .f64 b] w fun s w' => s = .returned (.float .f64 a) ∧ w = w' := by
    clear h0 h1 ha hr hm hmul
    go_enter Tryz.func113, Tryz.ntmps113
    go_wp2
    go_ret
    exact ⟨rfl, rfl⟩
  have c2 : Calls Tryz.prog 82 #[.float .f64 b] w fun s w' => s = .returned (.float .f64 r) ∧ w = w' := by
    clear h0 h1 ha hr hm hrun
    go_enter Tryz.func82, Tryz.ntmps82
    go_wp2_with (go_at_call 113; refine c.mono ?_; rintro e w' ⟨rfl, rfl⟩)
    go_ret
    exact ⟨rfl, rfl⟩
  clear h0 h1 ha hr hm hrun c hmul
  go_enter Tryz.func59, Tryz.ntmps59
  go_wp2_with (go_at_call 82; refine c2.mono ?_; rintro e w' ⟨rfl, rfl⟩)
  go_ret
  exact ⟨rfl, rfl⟩

set_option maxRecDepth 100000 in
theorem floor_any (r : Nat) (h : Mg r 16) (w : World) : ∃ q, Mg q 16 ∧ Calls Tryz.prog 58 #[.float .f64 r] w fun s w' => s = .returned (.float .f64 q) ∧ w = w' := by
  obtain ⟨s, m, i, hr, hi, hv⟩ := h
  have hrun := run_floor r m s i hr
  refine ⟨_, floor_mg s m i hi hv, ?_⟩
  obtain ⟨q, hq⟩ : ∃ q, Ieee.double.write ((Ieee.Datum.number s m i).integral .down) = q := ⟨_, rfl⟩
  rw [hq] at hrun ⊢
  clear hq hr hi hv
  go_enter Tryz.func58, Tryz.ntmps58
  go_wp2
  go_ret
  exact ⟨rfl, rfl⟩
end Go.Proofs.YtdijkobiffhgcaaGreatDoor.Nu
