/-
  The reference's bits: how many bits a whole number has. Conditions: at most 400000 digits.
-/
import Derived.Test.YtdijkobiffhgcaaGreatDoorSmallW
namespace Go.Proofs.YtdijkobiffhgcaaGreatDoor.Nu
open Go.RowKit Go.Lib

def blen (n : Nat) : Nat := if n = 0 then 0 else n.log2 + 1
theorem blen_half (t : Nat) (h : t ≠ 0) : blen t = blen (t / 2) + 1 := by
  unfold blen
  rw [if_neg h]
  by_cases h1 : t / 2 = 0
  · rw [if_pos h1]
    obtain rfl : t = 1 := by omega
    rfl
  · rw [if_neg h1, Nat.log2_def t, if_pos (by omega)]
theorem blen_le (t : Nat) : t < 2 ^ blen t := by
  unfold blen
  by_cases h : t = 0
  · rw [if_pos h]; omega
  · rw [if_neg h]; exact ((Nat.log2_eq_iff h (k := t.log2)).1 rfl).2
theorem blen_ge (t : Nat) (h : t ≠ 0) : 2 ^ (blen t - 1) ≤ t := by
  unfold blen
  rw [if_neg h]; exact ((Nat.log2_eq_iff h (k := t.log2)).1 rfl).1
theorem blen_top (l : List Nat) (k d : Nat) (hl : l.length = k + 1) (hd : l.getD k 0 = d) (hd0 : d ≠ 0) (h : ∀ x ∈ l, x < 65536) : blen (val l) = 16 * k + blen d := by
  have s := val_split l k (by omega)
  have hz : l.drop (k + 1) = [] := by rw [← hl]; simp
  rw [hz, hd] at s
  have hlt := val_lt (l.take k) (fun x hx => h x (List.mem_of_mem_take hx))
  rw [List.length_take, Nat.min_eq_left (by omega)] at hlt
  have s' : val l = val (l.take k) + 65536 ^ k * d := by rw [s]; simp [val]
  have e : (65536 : Nat) ^ k = 2 ^ (16 * k) := by rw [show (65536 : Nat) = 2 ^ 16 by decide, ← Nat.pow_mul]
  rw [e] at s' hlt
  have hp : 0 < 2 ^ (16 * k) := Nat.pow_pos (by omega)
  have hv0 : val l ≠ 0 := by
    have := Nat.mul_pos hp (Nat.pos_of_ne_zero hd0)
    omega
  have a := (Nat.log2_eq_iff hd0 (k := d.log2)).1 rfl
  have b : (val l).log2 = 16 * k + d.log2 := by
    apply (Nat.log2_eq_iff hv0).2
    rw [show 16 * k + d.log2 + 1 = 16 * k + (d.log2 + 1) by omega, Nat.pow_add, Nat.pow_add]
    have m1 := Nat.mul_le_mul_left (2 ^ (16 * k)) a.1
    have m2 := Nat.mul_le_mul_left (2 ^ (16 * k)) (show d + 1 ≤ 2 ^ (d.log2 + 1) from a.2)
    rw [Nat.mul_add, Nat.mul_one] at m2
    omega
  unfold blen
  rw [if_neg hv0, if_neg hd0, b]
  omega
/-- the last digit is not 0. -/
theorem dg_top (n : Nat) (k : Nat) (h : (dg n).length = k + 1) : (dg n).getD k 0 ≠ 0 := by
  induction n using Nat.strongRecOn generalizing k with
  | _ n ih =>
    by_cases h0 : n = 0
    · subst h0; rw [dg_zero] at h; cases h
    · rw [dg_step n h0] at h ⊢
      match k with
      | 0 =>
        have hn : dg (n / 65536) = [] := List.eq_nil_of_length_eq_zero (by simpa using h)
        have := (dg_nil _).1 hn
        show n % 65536 ≠ 0
        omega
      | k + 1 =>
        show (dg (n / 65536)).getD k 0 ≠ 0
        exact ih _ (by omega) k (by simpa using h)

set_option maxRecDepth 100000 in
set_option maxHeartbeats 4000000 in
theorem bits_lists (ad : Option Addr) (ca : Nat) (a : List Nat) (w : World) (hza : a.length ≤ 400000) (hda : ∀ x ∈ a, x < 65536) (ht : ∀ k, a.length = k + 1 → a.getD k 0 ≠ 0) (ha : RdAt w ad a) :
    Calls Tryz.prog 83 #[.slice ad a.length ca] w fun e w' => e = .returned (.int .i64 (blen (val a) : Nat)) ∧ w' = w := by
  have HA := hideIt ha
  have DA := hideIt hda
  have HT := hideIt ht
  clear ha hda ht
  by_cases h0 : a = []
  · subst h0
    go_enter Tryz.func83, Tryz.ntmps83
    go_wp2_with fail
    go_ret
    exact ⟨rfl, rfl⟩
  · obtain ⟨k, hk⟩ : ∃ k, a.length = k + 1 := ⟨a.length - 1, by have : a.length ≠ 0 := fun h => h0 (List.eq_nil_of_length_eq_zero h); omega⟩
    obtain ⟨b, o, rfl, hc⟩ := HA.out k (by omega)
    obtain ⟨d, hd⟩ : ∃ d, a.getD k 0 = d := ⟨_, rfl⟩
    rw [hd] at hc
    have hd0 : d ≠ 0 := by rw [← hd]; exact HT.out k hk
    have hdl : d < 65536 := by rw [← hd]; exact getD_lt a DA.out k
    have hb := hideIt (blen_top a k d hk hd hd0 DA.out)
    have hbd : blen d ≤ 16 := by
      have := blen_ge d hd0
      rcases Nat.lt_or_ge 16 (blen d) with g | g
      · have : 2 ^ 16 ≤ 2 ^ (blen d - 1) := Nat.pow_le_pow_right (by omega) (by omega)
        omega
      · exact g
    have n0 : ((a.length : Int) == 0) = false := by rw [beq_eq_false_iff_ne]; omega
    have n1 : IntKind.i64.wrap ((a.length : Int) - 1) = (k : Int) := by rw [hk]; rw [show (((k + 1 : Nat) : Int) - 1) = k by omega]; exact IntWalk.i64_in _ (by omega)
    have n2 : IntKind.i64.wrap (16 * (k : Int)) = 16 * (k : Int) := IntWalk.i64_in _ (by omega)
    have n3 : (0 : Int) ≤ (k : Int) ∧ (k : Int) < a.length := by omega
    have HK := hideIt hk
    have HD := hideIt hd
    clear hk hd h0
    go_enter Tryz.func83, Tryz.ntmps83
    go_wp2_with fail
    have HDL := hideIt hdl
    clear hdl
    go_loop [3, 4] (fun nv xv => ∃ (t c : Nat), xv = .int .u32 t ∧ nv = .int .i64 c ∧ t ≤ d ∧ c + blen t = 16 * k + blen d) (fun _ xv => (RowKit.intOf xv).toNat)
    case atStart => exact ⟨d, 16 * k, rfl, by first | rfl | go_num, Nat.le_refl _, rfl⟩
    case round =>
      obtain ⟨t, c, rfl, rfl, htd, hcb⟩ := hrel
      have HC := hideIt hcb
      clear hcb
      by_cases h0 : t = 0
      · subst h0
        go_wp2_with fail
        go_ret
        have e := HC.out
        have z : blen 0 = 0 := rfl
        rw [z, Nat.add_zero, ← hb.out] at e
        exact ⟨by rw [e]; rfl, rfl⟩
      · have h0' : (0 : Int) < t := by omega
        have hh := hideIt (blen_half t h0)
        have g1 : IntKind.u32.wrap ((t : Int) / 2) = ((t / 2 : Nat) : Int) := u32_in _ _ (by omega) (by have := HDL.out; omega)
        have hcl : c ≤ 16 * k + blen d := by have := HC.out; omega
        have g2 : IntKind.i64.wrap ((c : Int) + 1) = (c : Int) + 1 := IntWalk.i64_in _ (by omega)
        clear h0
        go_wp2_with fail
        go_round
        case rel => exact ⟨t / 2, c + 1, by first | rfl | (rw [g1]) | go_num, by first | rfl | go_num, by omega, by have := HC.out; have := hh.out; omega⟩
        case measure => simp only [RowKit.intOf]; omega

theorem bits_any (va : Value) (X : Nat) (w : World) (hx : (dg X).length ≤ 400000) (ha : IsN w va X) :
    Calls Tryz.prog 83 #[va] w fun e w' => e = .returned (.int .i64 (blen X : Nat)) ∧ w' = w := by
  obtain ⟨ad, ca, rfl, h1⟩ := Reads32.at ha
  have := bits_lists ad ca (dg X) w hx (dg_digit X) (fun k hk => dg_top X k hk) h1
  rwa [val_dg] at this
end Go.Proofs.YtdijkobiffhgcaaGreatDoor.Nu
