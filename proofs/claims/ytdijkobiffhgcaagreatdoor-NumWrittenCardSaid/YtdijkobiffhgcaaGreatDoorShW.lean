/-
  strconv's shortFloat. Conditions: a number's parts; the table lies as told.
-/
import Derived.Test.YtdijkobiffhgcaaGreatDoorShP
import Derived.Test.YtdijkobiffhgcaaGreatDoorUsW
import Derived.Test.YtdijkobiffhgcaaGreatDoorLdW
import Derived.Deep.DeepCutAuto
namespace Go.Proofs.YtdijkobiffhgcaaGreatDoor.Nu
open Go.RowKit Go.Lib

theorem i64_mask1 (v : Nat) (h : v < 9223372036854775808) : bits .and .i64 (v : Int) 1 = ((v % 2 : Nat) : Int) := by
  have h2 := bits_mask .i64 63 (by decide) (fun n h0 h1 => IntWalk.i64_in n (by omega)) 1 (by decide) (v : Int) (by omega) (by omega)
  rw [show (2 : Int) ^ 1 - 1 = 1 by decide] at h2
  rw [h2]
  omega

structure PreAt (w : World) (B hi0 lo0 S : Nat) : Prop where
  c0 : w.cell? ⟨B, 0, none⟩ = some (.int .u64 (hi0 : Int))
  c1 : w.cell? ⟨B, 1, none⟩ = some (.int .u64 (lo0 : Int))
  c2 : w.cell? ⟨B, 2, none⟩ = some (.int .i64 (S : Int))
theorem uscale_pre (x hi0 lo0 S B : Nat) (w : World) (hs : S < 64) (hx : x < 18446744073709551616) (h00 : 0 < hi0) (h0 : hi0 < 18446744073709551616) (h1 : lo0 < 18446744073709551616) (hp : PreAt w B hi0 lo0 S) :
    Calls Tryz.prog 122 #[.int .u64 (x : Int), .pointer (some ⟨B, 0, none⟩)] w fun r w' => r = .returned (.int .u64 ((uscaleN x hi0 lo0 S : Nat) : Int)) ∧ PreAt w' B hi0 lo0 S ∧ Below w.heap.size w w' :=
  (uscale_any x hi0 lo0 S B w hs hx h00 h0 h1 hp.c0 hp.c1 hp.c2).mono fun r w' ⟨h1, q, h2⟩ => ⟨h1, by rw [h2]; exact ⟨hp.c0, hp.c1, hp.c2⟩, by rw [h2]; exact below_draws (Below.refl _ _) q⟩

set_option maxRecDepth 100000 in
set_option maxHeartbeats 8000000 in
theorem short_walk (e e1 P L : Int) (s S M mn mx od ul uh um dmin dmax D : Nat) (w : World) (kind : Nat) (hk : kind < 3)
    (hK : kind = 0 → s = 11 ∧ M = 9223372036854775808 ∧ -1085 < e1 ∧ mn + 512 = M ∧ mx = M + 1024 ∧ od = 0 ∧ P = -skew e)
    (hK1 : kind = 1 → s = 11 ∧ (M ≠ 9223372036854775808 ∨ e1 ≤ -1085) ∧ -1085 ≤ e1 ∧ mn + 1024 = M ∧ mx = M + 1024 ∧ od = M / 2048 % 2 ∧ P = -lp2 e)
    (hK2 : kind = 2 → e1 < -1085 ∧ 12 ≤ s ∧ s ≤ 63 ∧ mn + 2 ^ (s - 1) = M ∧ mx = M + 2 ^ (s - 1) ∧ od = M / 2 ^ s % 2 ∧ P = -lp2 e ∧ e = -1074)
    (hM : M < 18446744073709551616) (hmx : mx < 18446744073709551616) (he1 : e1 + s = e) (he : -1074 ≤ e ∧ e ≤ 971) (hPT : PTab w) (hod : od ≤ 1)
    (hP0 : -348 ≤ P) (hP1 : P ≤ 347) (hS : (S : Int) = s - (e + lp10 P + 3)) (hS5 : 5 ≤ S) (hS64 : S < 64)
    (hul : uscaleN mn (row P).1 (row P).2 S = ul) (huh : uscaleN mx (row P).1 (row P).2 S = uh) (hum : uscaleN M (row P).1 (row P).2 S = um) (hou : od ≤ uh)
    (hdm : (ul + od + 3) / 4 = dmin) (hdx : (uh - od) / 4 = dmax)
    (hres : (if dmin ≤ dmax / 10 * 10 then (dmax / 10, P - 1) else if dmin < dmax then (roundU um, P) else (dmin, P)) = (D, L)) :
    Calls Tryz.prog 100 #[.int .u64 (M : Int), .int .i64 e1] w fun r w' => r = .returned (.tuple #[.int .u64 (D : Int), .int .i64 (-L)]) ∧ Below w.heap.size w w' := by
  have hmn : mn < 18446744073709551616 := by
    rcases (show kind = 0 ∨ kind = 1 ∨ kind = 2 by omega) with h | h | h
    · have := (hK h).2.2.2.1; omega
    · have := (hK1 h).2.2.2.1; omega
    · have := (hK2 h).2.2.2.1; exact Nat.lt_of_le_of_lt (Nat.le.intro this) hM
  obtain ⟨z0, z1, z2⟩ := row_lt P hP0 hP1
  have ull : ul < 1152921504606846976 := by rw [← hul]; exact uscaleN_lt _ _ _ _ hmn z1 hS5
  have uhl : uh < 1152921504606846976 := by rw [← huh]; exact uscaleN_lt _ _ _ _ hmx z1 hS5
  have uml : um < 1152921504606846976 := by rw [← hum]; exact uscaleN_lt _ _ _ _ hM z1 hS5
  have HB8 : Hid (8 < w.heap.size) := hideIt (World.block_lt_of_cell? w _ (hPT.row P hP0 hP1).1)
  obtain ⟨R1, hR1⟩ : ∃ R1, (row P).1 = R1 := ⟨_, rfl⟩
  obtain ⟨R2, hR2⟩ : ∃ R2, (row P).2 = R2 := ⟨_, rfl⟩
  have ctab : ∀ w', Below w.heap.size w w' → w'.cell? ⟨8, (P + 348).toNat * 2, none⟩ = some (.int .u64 (R1 : Int)) ∧ w'.cell? ⟨8, (P + 348).toNat * 2 + 1, none⟩ = some (.int .u64 (R2 : Int)) := fun w' hb => by
    obtain ⟨a, b⟩ := hPT.row P hP0 hP1
    rw [hR1] at a
    rw [hR2] at b
    exact ⟨(hb.cell (World.block_lt_of_cell? w _ a)).trans a, (hb.cell (World.block_lt_of_cell? w _ b)).trans b⟩
  rw [hR1, hR2] at hul huh hum
  rw [hR1] at z0 z1
  rw [hR2] at z2
  have CU : ∀ x u, uscaleN x R1 R2 S = u → x < 18446744073709551616 → ∀ w1 B, PreAt w1 B R1 R2 S → Calls Tryz.prog 122 #[.int .u64 (x : Int), .pointer (some ⟨B, 0, none⟩)] w1 fun r w' => r = .returned (.int .u64 (u : Int)) ∧ PreAt w' B R1 R2 S ∧ Below w1.heap.size w1 w' :=
    fun x u hu hx w1 B hp => by
      have := uscale_pre x R1 R2 S B w1 hS64 hx z0 z1 z2 hp
      rwa [hu] at this
  have CL := CU mn ul hul hmn
  have CH := CU mx uh huh hmx
  have CM := CU M um hum hM
  obtain ⟨vL, hvL⟩ : ∃ vL, ul + od = vL := ⟨_, rfl⟩
  obtain ⟨vH, hvH⟩ : ∃ vH, uh - od = vH := ⟨_, rfl⟩
  obtain ⟨ru, hru⟩ : ∃ ru, roundU um = ru := ⟨_, rfl⟩
  rw [hvL] at hdm
  rw [hvH] at hdx
  rw [hru] at hres
  have CN1 := fun w => nudge_u ul vL (od : Int) (by omega) (by omega) (by omega) w
  have CN2 := fun w => nudge_u uh vH (-(od : Int)) (by omega) (by omega) (by omega) w
  have CC := fun w => ceil_u vL dmin (by omega) hdm w
  have CF := fun w => floor_u vH dmax (by omega) hdx w
  have CR := fun w => round_u um ru (by omega) hru w
  have eo : wrap64 (-(od : Int)) = -(od : Int) := IntWalk.wrap64_in _ (by omega)
  have HSS := hideIt (show -(e1 + lp10 P + 3) = (S : Int) by omega)
  have HRES := hideIt hres
  have HP0 := hideIt hP0
  have HP1 := hideIt hP1
  have hlp : -3000 ≤ lp10 P ∧ lp10 P ≤ 3000 := by unfold lp10; omega
  have eb : -2000 ≤ e1 ∧ e1 ≤ 1000 := by
    have : s ≤ 63 := by
      rcases (show kind = 0 ∨ kind = 1 ∨ kind = 2 by omega) with h | h | h
      · have := (hK h).1; omega
      · have := (hK1 h).1; omega
      · have := (hK2 h).2.2.1; omega
    omega
  have HDM : Hid (dmin < 1152921504606846976 ∧ dmax < 1152921504606846976) := hideIt (by omega)
  clear hPT hod hS hS5 hS64 hul huh hum hou hdm hdx hres hmn z0 z1 z2 ull uhl uml CU hR1 hR2 hvL hvH hru
  obtain ⟨Mi, hMi⟩ : ∃ Mi : Int, (M : Int) = Mi := ⟨_, rfl⟩
  rw [hMi] at CM ⊢
  have HMI := hideIt hMi
  have HK := hideIt hK
  have HK1 := hideIt hK1
  have HK2 := hideIt hK2
  have HMB := hideIt hM
  have HXB := hideIt hmx
  have HE := hideIt he1
  clear hMi hK hK1 hK2 hM hmx he1 hP0 hP1
  go_enter Tryz.func100, Tryz.ntmps100
  obtain ⟨k0, hk0⟩ : ∃ k0 : Bool, decide (kind = 0) = k0 := ⟨_, rfl⟩
  have HK0 := hideIt hk0
  clear hk0
  go_upto_region 12 with (fail)
  go_cut [28] (fun bv wx => bv = .bool k0 ∧ wx = w)
  case first =>
    by_cases h0 : kind = 0
    · obtain ⟨k1, k2, k3, k4, k5, k6, k7⟩ := HK.out h0
      have hkk : k0 = true := by rw [← HK0.out]; exact decide_eq_true h0
      subst hkk
      have g0 : (Mi == 9223372036854775808) = true := by rw [beq_iff_eq]; have := HMI.out; omega
      have g1 : decide (-1085 < e1) = true := decide_eq_true k3
      clear k1 k2 k4 k5 k6 k7 h0
      go_wp2_with fail
      go_meet
      exact ⟨rfl, rfl⟩
    · have hkk : k0 = false := by rw [← HK0.out]; exact decide_eq_false h0
      subst hkk
      by_cases g : Mi = 9223372036854775808
      · have g0 : (Mi == 9223372036854775808) = true := by rw [beq_iff_eq]; exact g
        have g1 : decide (-1085 < e1) = false := decide_eq_false (by
          have := HMI.out
          by_cases h1 : kind = 1
          · have := (HK1.out h1).2.1; omega
          · have := (HK2.out (by omega)).1; omega)
        clear g h0
        go_wp2_with fail
        go_meet
        exact ⟨rfl, rfl⟩
      · have g0 : (Mi == 9223372036854775808) = false := by rw [beq_eq_false_iff_ne]; exact g
        clear g h0
        go_wp2_with fail
        go_meet
        exact ⟨rfl, rfl⟩
  case rest =>
  obtain ⟨rfl, hwc⟩ := hcut
  rw [hwc]
  clear hwc wc
  go_upto_if 28 with (fail)
  go_cut [5, 8, 9, 10, 11] (fun pv mv xv ov zv wx => pv = .int .i64 P ∧ mv = .int .u64 (mn : Int) ∧ xv = .int .u64 (mx : Int) ∧ ov = .int .i64 (od : Int) ∧ wx = w)
  case first =>
    by_cases h0 : kind = 0
    · obtain ⟨k1, k2, k3, k4, k5, k6, k7⟩ := HK.out h0
      have g0 : (Mi == 9223372036854775808) = true := by rw [beq_iff_eq]; have := HMI.out; omega
      have g1 : decide (-1085 < e1) = true := decide_eq_true k3
      have g2 : e1 + 11 = e := by have := HE.out; omega
      have hkk : k0 = true := by rw [← HK0.out]; exact decide_eq_true h0
      subst hkk
      have q1 : IntKind.u64.wrap (Mi - 512) = (mn : Int) := u64_in _ _ (by have := HMI.out; omega) (by have := HMB.out; omega)
      have q2 : IntKind.u64.wrap (Mi + 1024) = (mx : Int) := u64_in _ _ (by have := HMI.out; omega) HXB.out
      have q3 : wrap64 (-skew e) = P := by rw [k7]; exact IntWalk.wrap64_in _ (by unfold skew; omega)
      obtain ⟨v, hv⟩ : ∃ v, M / 2048 = v := ⟨_, rfl⟩
      have hvl : v < 9223372036854775808 := by have := HMB.out; omega
      have q4 : wrap64 (Mi / 2048) = (v : Int) := by rw [IntWalk.wrap64_in _ (by have := HMI.out; omega)]; have := HMI.out; omega
      have q5 : bits .and .i64 (v : Int) 1 = (od : Int) := by rw [i64_mask1 v hvl]; omega
      clear k1 k2 k4 k5 k6 k7 h0 hv hvl
      go_wp2_with fail
      refine (skewed_any e (by omega) w).mono ?_
      rintro r w1 ⟨rfl, hw⟩
      rw [← hw]
      clear hw w1
      go_wp2_with fail
      go_meet
      exact ⟨by rw [q3], rfl, rfl, rfl, rfl⟩
    · by_cases h1 : kind = 1
      · obtain ⟨k1, k2, k3, k4, k5, k6, k7⟩ := HK1.out h1
        have hkk : k0 = false := by rw [← HK0.out]; exact decide_eq_false h0
        subst hkk
        have g1 : decide (-1085 ≤ e1) = true := decide_eq_true k3
        have g2 : e1 + 11 = e := by have := HE.out; omega
        have q1 : IntKind.u64.wrap (Mi - 1024) = (mn : Int) := u64_in _ _ (by have := HMI.out; omega) (by have := HMB.out; omega)
        have q2 : IntKind.u64.wrap (Mi + 1024) = (mx : Int) := u64_in _ _ (by have := HMI.out; omega) HXB.out
        have q3 : wrap64 (-lp2 e) = P := by rw [k7]; exact IntWalk.wrap64_in _ (by unfold lp2; omega)
        obtain ⟨v, hv⟩ : ∃ v, M / 2048 = v := ⟨_, rfl⟩
        have hvl : v < 9223372036854775808 := by have := HMB.out; omega
        have q4 : wrap64 (Mi / 2048) = (v : Int) := by rw [IntWalk.wrap64_in _ (by have := HMI.out; have := HMB.out; omega)]; have := HMI.out; omega
        have q5 : bits .and .i64 (v : Int) 1 = (od : Int) := by rw [i64_mask1 v hvl]; omega
        clear k1 k2 k4 k5 k6 k7 h0 h1 hv hvl
        go_wp2_with fail
        refine (log10Pow2_any e (by omega) w).mono ?_
        rintro r w1 ⟨rfl, hw⟩
        rw [← hw]
        clear hw w1
        go_wp2_with fail
        go_meet
        exact ⟨by rw [q3], rfl, rfl, rfl, rfl⟩
      · obtain ⟨k1, k2, k3, k4, k5, k6, k7, k8⟩ := HK2.out (by omega)
        have hkk : k0 = false := by rw [← HK0.out]; exact decide_eq_false h0
        subst hkk
        have g1 : decide (-1085 ≤ e1) = false := decide_eq_false (by omega)
        have g2 : 11 + (-1085 - e1) = (s : Int) := by have := HE.out; omega
        have g3 : e1 + (s : Int) = e := HE.out
        have g4 : (0 : Int) ≤ (s : Int) ∧ (s : Int) < 64 := by omega
        have g5 : IntKind.i64.wrap ((s : Int) - 1) = (s : Int) - 1 := IntWalk.i64_in _ (by omega)
        obtain ⟨T, hT⟩ : ∃ T, 2 ^ (s - 1) = T := ⟨_, rfl⟩
        have hTl : T < 18446744073709551616 := by
          have : 2 ^ (s - 1) ≤ 2 ^ 63 := Nat.pow_le_pow_right (by omega) (by omega)
          rw [hT] at this
          omega
        rw [hT] at k4 k5
        have eT : IntKind.u64.wrap (2 ^ (s - 1)) = (T : Int) := u64_in _ _ (by rw [← hT, Int.natCast_pow]; rfl) hTl
        have q1 : IntKind.u64.wrap (Mi - (T : Int)) = (mn : Int) := u64_in _ _ (by have := HMI.out; omega) (by have := HMB.out; omega)
        have q2 : IntKind.u64.wrap (Mi + (T : Int)) = (mx : Int) := u64_in _ _ (by have := HMI.out; omega) HXB.out
        have q3 : wrap64 (-lp2 e) = P := by rw [k7]; exact IntWalk.wrap64_in _ (by unfold lp2; omega)
        obtain ⟨v, hv⟩ : ∃ v, M / 2 ^ s = v := ⟨_, rfl⟩
        have hvl : v < 9223372036854775808 := by
          rw [← hv, Nat.div_lt_iff_lt_mul (Nat.pow_pos (by omega))]
          have : 2 ≤ 2 ^ s := by
            have : 2 ^ 1 ≤ 2 ^ s := Nat.pow_le_pow_right (by omega) (by omega)
            omega
          have := Nat.mul_le_mul_left 9223372036854775808 this
          have := HMB.out
          omega
        have q6 : Mi / 2 ^ s = (v : Int) := by
          rw [← HMI.out, ← hv]
          exact (Int.natCast_ediv M (2 ^ s)).symm ▸ (by rw [Int.natCast_pow]; rfl)
        have q4 : wrap64 (v : Int) = (v : Int) := IntWalk.wrap64_in _ (by omega)
        have q5 : bits .and .i64 (v : Int) 1 = (od : Int) := by rw [i64_mask1 v hvl, k6, hv]
        clear k1 k4 k5 k6 k7 k8 h0 h1 hT hTl hv hvl
        go_wp2_with fail
        refine (log10Pow2_any e (by omega) w).mono ?_
        rintro r w1 ⟨rfl, hw⟩
        rw [← hw]
        clear hw w1
        go_wp2_with fail
        go_meet
        exact ⟨by rw [q3], rfl, rfl, rfl, rfl⟩
  case rest =>
    obtain ⟨rfl, rfl, rfl, rfl, hwc⟩ := hcut
    rw [hwc]
    clear hwc wc
    go_wp2_with fail
    refine (log2Pow10_any P (by have := HP0.out; have := HP1.out; omega) _).mono ?_
    rintro r w1 ⟨rfl, hw1⟩
    have hb1 : Below w.heap.size w w1 := by rw [← hw1]; exact (Below.refl _ _).alloc (Nat.le_refl _) _
    have hsz : w1.heap.size = w.heap.size + 1 := by rw [← hw1]; simp
    have x0 : w1.cell? ⟨w.heap.size, 0, none⟩ = some (.int .u64 0) := by rw [← hw1]; simp
    have x1 : w1.cell? ⟨w.heap.size, 1, none⟩ = some (.int .u64 0) := by rw [← hw1]; simp
    have x2 : w1.cell? ⟨w.heap.size, 2, none⟩ = some (.int .i64 0) := by rw [← hw1]; simp
    have xf : ∀ o, w1.frozen? ⟨w.heap.size, o, none⟩ = false := fun o => by rw [← hw1]; simp
    obtain ⟨j, hj⟩ : ∃ j : Nat, (P + 348).toNat = j := ⟨_, rfl⟩
    obtain ⟨y0, y1⟩ := ctab w1 hb1
    rw [hj] at y0 y1
    have HJ : Hid (P = (j : Int) - 348 ∧ j < 696) := hideIt (by have := HP0.out; have := HP1.out; omega)
    clear hw1 ctab hj
    go_wp2_with fail
    refine (prescale_any w.heap.size e1 P (lp10 P) (S : Int) R1 R2 j _ _ _ w1 HJ.out.1 HJ.out.2 (by omega) (by omega) HSS.out y0 y1 HB8.out x0 x1 x2 xf).mono ?_
    rintro r w2 ⟨rfl, hw2⟩
    have hp2 : PreAt w2 w.heap.size R1 R2 S := by
      rw [hw2]
      obtain ⟨s1, hs1⟩ : ∃ s1, w1.setCell ⟨w.heap.size, 0, none⟩ (.int .u64 (R1 : Int)) = s1 := ⟨_, rfl⟩
      obtain ⟨s2, hs2⟩ : ∃ s2, s1.setCell ⟨w.heap.size, 1, none⟩ (.int .u64 (R2 : Int)) = s2 := ⟨_, rfl⟩
      rw [hs1, hs2]
      have u0 : s1.cell? ⟨w.heap.size, 0, none⟩ = some (.int .u64 (R1 : Int)) := by rw [← hs1]; exact World.cell?_setCell_same _ _ _ x0
      have u1 : s1.cell? ⟨w.heap.size, 1, none⟩ = some (.int .u64 0) := by rw [← hs1]; exact (World.cell?_setCell_other _ _ _ _ (by intro h; cases h)).trans x1
      have u2 : s1.cell? ⟨w.heap.size, 2, none⟩ = some (.int .i64 0) := by rw [← hs1]; exact (World.cell?_setCell_other _ _ _ _ (by intro h; cases h)).trans x2
      have v0 : s2.cell? ⟨w.heap.size, 0, none⟩ = some (.int .u64 (R1 : Int)) := by rw [← hs2]; exact (World.cell?_setCell_other _ _ _ _ (by intro h; cases h)).trans u0
      have v1 : s2.cell? ⟨w.heap.size, 1, none⟩ = some (.int .u64 (R2 : Int)) := by rw [← hs2]; exact World.cell?_setCell_same _ _ _ u1
      have v2 : s2.cell? ⟨w.heap.size, 2, none⟩ = some (.int .i64 0) := by rw [← hs2]; exact (World.cell?_setCell_other _ _ _ _ (by intro h; cases h)).trans u2
      exact ⟨(World.cell?_setCell_other _ _ _ _ (by intro h; cases h)).trans v0, (World.cell?_setCell_other _ _ _ _ (by intro h; cases h)).trans v1, World.cell?_setCell_same _ _ _ v2⟩
    have hb2 : Below w.heap.size w w2 := by
      rw [hw2]
      exact ((hb1.setCell (Nat.le_refl _) _).setCell (Nat.le_refl _) _).setCell (Nat.le_refl _) _
    clear hw2 x0 x1 x2 xf y0 y1 hb1 hsz
    go_wp2_with fail
    refine (CL w2 w.heap.size hp2).mono ?_
    rintro r w3 ⟨rfl, hp3, hb3⟩
    have H3 := hb2.trans (hb3.mono hb2.size)
    clear CL hb3 hp2 hb2
    go_wp2_with fail
    refine (CN1 w3).mono ?_
    rintro r w4 ⟨rfl, hw4⟩
    rw [← hw4]
    clear hw4 w4 CN1
    go_wp2_with fail
    refine (CC w3).mono ?_
    rintro r w4 ⟨rfl, hw4⟩
    rw [← hw4]
    clear hw4 w4 CC
    go_wp2_with fail
    refine (CH w3 w.heap.size hp3).mono ?_
    rintro r w4 ⟨rfl, hp4, hb4⟩
    have H4 := H3.trans (hb4.mono H3.size)
    clear CH hb4 hp3 H3
    go_wp2_with fail
    refine (CN2 w4).mono ?_
    rintro r w5 ⟨rfl, hw5⟩
    rw [← hw5]
    clear hw5 w5 CN2
    go_wp2_with fail
    refine (CF w4).mono ?_
    rintro r w5 ⟨rfl, hw5⟩
    rw [← hw5]
    clear hw5 w5 CF
    obtain ⟨a, ha⟩ : ∃ a : Int, (dmin : Int) = a := ⟨_, rfl⟩
    obtain ⟨b, hb⟩ : ∃ b : Int, (dmax : Int) = b := ⟨_, rfl⟩
    obtain ⟨c, hc⟩ : ∃ c : Int, ((dmax / 10 : Nat) : Int) = c := ⟨_, rfl⟩
    rw [ha, hb]
    have m1 : b / 10 = c := by omega
    have m3 : IntKind.u64.wrap (c * 10) = c * 10 := by have := HDM.out; rw [← hc]; exact u64_in _ (dmax / 10 * 10) (by omega) (by omega)
    have HA := hideIt ha
    have HB := hideIt hb
    have HC := hideIt hc
    have m4 : IntKind.i64.wrap (P - 1) = P - 1 := IntWalk.i64_in _ (by have := HP0.out; have := HP1.out; omega)
    have m5 : wrap64 (-(P - 1)) = -(P - 1) := IntWalk.wrap64_in _ (by have := HP0.out; have := HP1.out; omega)
    have m6 : wrap64 (-P) = -P := IntWalk.wrap64_in _ (by have := HP0.out; have := HP1.out; omega)
    have hcb : 0 ≤ c ∧ c ≤ 115292150460684698 := by have := HDM.out; omega
    have hab : 0 ≤ a ∧ a < 1152921504606846976 ∧ 0 ≤ b ∧ b < 1152921504606846976 := by have := HDM.out; omega
    clear ha hb hc
    by_cases t1 : a ≤ c * 10
    · have hr := HRES.out
      rw [if_pos (by have := HA.out; have := HC.out; omega)] at hr
      obtain ⟨rfl, rfl⟩ := Prod.mk.inj hr
      clear hr
      go_wp2_with fail
      go_ret2
      refine ⟨?_, H4⟩
      show Ending.returned (.tuple #[.int .u64 (b / 10), .int .i64 (wrap64 (-(P - 1)))]) = _
      rw [m1, m5, HC.out]
    · have hr := HRES.out
      rw [if_neg (by have := HA.out; have := HC.out; omega)] at hr
      by_cases t2 : a < b
      · rw [if_pos (by have := HA.out; have := HB.out; omega)] at hr
        obtain ⟨rfl, rfl⟩ := Prod.mk.inj hr
        clear hr
        go_wp2_with fail
        refine (CM w4 w.heap.size hp4).mono ?_
        rintro r w5 ⟨rfl, hp5, hb5⟩
        have H5 := H4.trans (hb5.mono H4.size)
        clear CM hb5
        go_wp2_with fail
        refine (CR w5).mono ?_
        rintro r w6 ⟨rfl, hw6⟩
        rw [← hw6]
        go_wp2_with fail
        go_ret2
        refine ⟨?_, by rw [← hw6]; exact H5⟩
        show Ending.returned (.tuple #[.int .u64 (ru : Int), .int .i64 (wrap64 (-P))]) = _
        rw [m6]
      · rw [if_neg (by have := HA.out; have := HB.out; omega)] at hr
        obtain ⟨rfl, rfl⟩ := Prod.mk.inj hr
        clear hr
        go_wp2_with fail
        go_ret2
        refine ⟨?_, H4⟩
        show Ending.returned (.tuple #[.int .u64 a, .int .i64 (wrap64 (-P))]) = _
        rw [m6, HA.out]

/-- SHORTFLOAT of a number's parts. -/
theorem short_any (n : Nat) (e : Int) (h : Parts n e) (s : Nat) (hs : s = 64 - blen n) (w : World) (hPT : PTab w) :
    Calls Tryz.prog 100 #[.int .u64 ((n * 2 ^ s : Nat) : Int), .int .i64 (e - s)] w fun r w' => r = .returned (.tuple #[.int .u64 ((shortOf n e).1 : Int), .int .i64 (-(shortOf n e).2)]) ∧ Below w.heap.size w w' := by
  obtain ⟨S, f⟩ := sh_facts n e h s hs
  obtain ⟨s0, s1, t1, t2, t3⟩ := norm_top n h.pos h.lt s hs
  have hpos := h.pos
  have hlt := h.lt
  have hge := h.ge
  have hle := h.le
  have e4 : 2 ^ s = 4 * 2 ^ (s - 2) := by
    rw [show s = (s - 2) + 2 by omega, Nat.pow_add, show s - 2 + 2 - 2 = s - 2 by omega]; omega
  have e2 : 2 ^ (s - 1) = 2 * 2 ^ (s - 2) := by
    rw [show s - 1 = (s - 2) + 1 by omega, Nat.pow_add]; omega
  have m4 : n * 2 ^ s = 4 * n * 2 ^ (s - 2) := by rw [e4, ← Nat.mul_assoc, Nat.mul_comm n 4]
  have hodd : n * 2 ^ s / 2 ^ s % 2 = n % 2 := by rw [Nat.mul_div_cancel _ (Nat.pow_pos (by omega))]
  have hmx : yhiOf n * 2 ^ (s - 2) = n * 2 ^ s + 2 ^ (s - 1) := by rw [m4, e2, ← Nat.add_mul]; rfl
  have hres : (if (uAt e (pOf n e) (yloOf n e) + n % 2 + 3) / 4 ≤ (uAt e (pOf n e) (yhiOf n) - n % 2) / 4 / 10 * 10 then ((uAt e (pOf n e) (yhiOf n) - n % 2) / 4 / 10, pOf n e - 1)
      else if (uAt e (pOf n e) (yloOf n e) + n % 2 + 3) / 4 < (uAt e (pOf n e) (yhiOf n) - n % 2) / 4 then (roundU (uAt e (pOf n e) (4 * n)), pOf n e) else ((uAt e (pOf n e) (yloOf n e) + n % 2 + 3) / 4, pOf n e)) = ((shortOf n e).1, (shortOf n e).2) := rfl
  have hou : n % 2 ≤ uAt e (pOf n e) (yhiOf n) := by
    rcases Nat.mod_two_eq_zero_or_one n with g | g
    · omega
    · have := f.odd g; omega
  have go := fun kind hk hK hK1 hK2 => short_walk e (e - s) (pOf n e) _ s S (n * 2 ^ s) (yloOf n e * 2 ^ (s - 2)) (yhiOf n * 2 ^ (s - 2)) (n % 2) _ _ _ _ _ _ w kind hk hK hK1 hK2 t1 f.top (by omega) ⟨hge, hle⟩ hPT (by omega) f.p0 f.p1 f.eq f.ge f.lt f.lo f.hi f.mid hou rfl rfl hres
  by_cases hk : n = 4503599627370496 ∧ -1074 < e
  · have hs11 : s = 11 := by rw [hs]; exact norm_s11 _ (by omega) (by omega)
    have hp : pOf n e = -skew e := by unfold pOf; rw [if_pos hk]
    have hlo : yloOf n e = 18014398509481983 := by unfold yloOf; rw [if_pos hk]
    refine go 0 (by omega) (fun _ => ⟨hs11, ?_, ?_, ?_, ?_, ?_, hp⟩) (fun h => by omega) (fun h => by omega)
    · rw [hk.1, hs11]
    · omega
    · rw [hlo, hk.1, hs11]
    · rw [hmx, hs11]
    · omega
  · have hp : pOf n e = -lp2 e := by unfold pOf; rw [if_neg hk]
    have hmn : yloOf n e * 2 ^ (s - 2) + 2 ^ (s - 1) = n * 2 ^ s := by
      have : yloOf n e = 4 * n - 2 := by unfold yloOf; rw [if_neg hk]
      rw [this, m4, e2, ← Nat.add_mul]
      congr 1; omega
    by_cases hn : 4503599627370496 ≤ n
    · have hs11 : s = 11 := by rw [hs]; exact norm_s11 _ hn (by omega)
      refine go 1 (by omega) (fun h => by omega) (fun _ => ⟨hs11, ?_, ?_, ?_, ?_, ?_, hp⟩) (fun h => by omega)
      · rw [hs11]
        by_cases h1 : n = 4503599627370496
        · right; omega
        · left; omega
      · omega
      · have p1 : (2 : Nat) ^ (s - 1) = 1024 := by rw [hs11]
        rw [p1] at hmn; exact hmn
      · have p1 : (2 : Nat) ^ (s - 1) = 1024 := by rw [hs11]
        rw [p1] at hmx; exact hmx
      · have p2 : (2 : Nat) ^ s = 2048 := by rw [hs11]
        rw [p2] at hodd ⊢; exact hodd.symm
    · have hs12 : 12 ≤ s := by rw [hs]; exact norm_low n hpos (by omega)
      have he : e = -1074 := by have := h.full; omega
      exact go 2 (by omega) (fun h => by omega) (fun h => by omega) (fun _ => ⟨by omega, hs12, s1, hmn, hmx, hodd.symm, hp, he⟩)
end Go.Proofs.YtdijkobiffhgcaaGreatDoor.Nu
