/-
  The reference's Ratio. Conditions: at most 100000 digits; P is less than 2^1100 times Q.
-/
import Derived.Test.YtdijkobiffhgcaaGreatDoorRatP
import Derived.Test.YtdijkobiffhgcaaGreatDoorQuoW
import Derived.Test.YtdijkobiffhgcaaGreatDoorLdW
import Derived.Deep.DeepCutAuto
import Derived.Deep.RegionWith
namespace Go.Proofs.YtdijkobiffhgcaaGreatDoor.Nu
open Go.RowKit Go.Lib

theorem Fit.blen {X k : Nat} (h : Fit X k) : blen X ≤ 16 * k := by
  by_cases h0 : X = 0
  · subst h0; exact Nat.zero_le _
  · have a := blen_ge X h0
    have b := h.lt
    rw [show (65536 : Nat) = 2 ^ 16 by decide, ← Nat.pow_mul] at b
    have c := (Nat.pow_lt_pow_iff_right (show 1 < 2 by omega)).1 (Nat.lt_of_le_of_lt a b)
    omega

set_option maxRecDepth 100000 in
set_option maxHeartbeats 1000000 in
theorem power_neg (b : Nat) (n : Int) (w : World) (hb : b ≤ 16) (hn : n < 0) :
    Calls Tryz.prog 61 #[.int .u64 b, .int .i64 n] w fun e w' => ∃ v, e = .returned v ∧ IsN w' v 1 ∧ Below w.heap.size w w' := by
  have c1 := nat_any 1 w (by omega)
  have h0 : ¬ (0 : Int) < n := by omega
  clear hn
  go_enter Tryz.func61, Tryz.ntmps61
  go_wp2_with fail
  refine c1.mono ?_
  rintro e w1 ⟨v1, rfl, N1, hb1⟩
  have c2 := nat_any b w1 (by omega)
  clear c1
  go_wp2_with fail
  refine c2.mono ?_
  rintro e w2 ⟨v2, rfl, N2, hb2⟩
  have hB2 : Below w.heap.size w w2 := hb1.trans (hb2.mono hb1.size)
  have N1' : IsN w2 v1 1 := N1.later hb2
  clear c2 N1 hb1 hb2 N2
  go_wp2_with fail
  refine wp_loop_rounds 1 ?_
  rw [rounds_succ]
  go_wp2_with fail
  go_ret
  exact ⟨_, rfl, N1', hB2⟩

theorem power_int (b : Nat) (n : Int) (w : World) (hb : b ≤ 16) (hn : n ≤ 100000) :
    Calls Tryz.prog 61 #[.int .u64 b, .int .i64 n] w fun e w' => ∃ v, e = .returned v ∧ IsN w' v (b ^ n.toNat) ∧ Below w.heap.size w w' := by
  by_cases h : n < 0
  · have := power_neg b n w hb h
    rwa [show n.toNat = 0 by omega, Nat.pow_zero]
  · obtain ⟨m, rfl⟩ : ∃ m : Nat, n = (m : Int) := ⟨n.toNat, by omega⟩
    exact power_any b m w hb (by omega)

set_option maxRecDepth 100000 in
theorem ldexp_zero (e : Int) (w : World) : Calls Tryz.prog 115 #[.float .f64 (FloatKind.f64.nearest ((0 : Nat) : Int)), .int .i64 e] w fun s w' => s = .returned (.float .f64 0) ∧ w = w' := by
  have hz : FloatKind.f64.nearest ((0 : Nat) : Int) = 0 := by decide
  rw [hz]
  clear hz
  have z : (FloatKind.f64.format.order 0 0 == some .eq) = true := by decide
  go_enter Tryz.func115, Tryz.ntmps115
  go_wp2_with fail
  go_ret
  exact ⟨rfl, rfl⟩

set_option maxRecDepth 100000 in
theorem ldexp85 (m : Nat) (e : Int) (w : World) (hm : m ≤ 9007199254740992) (he0 : -1074 ≤ e) (he1 : e ≤ 971) (hfull : 4503599627370496 ≤ m ∨ e = -1074) :
    Calls Tryz.prog 85 #[.float .f64 (FloatKind.f64.nearest (m : Int)), .int .i64 e] w fun s w' => s = .returned (.float .f64 (wordOf m e)) ∧ w = w' := by
  have c : Calls Tryz.prog 115 #[.float .f64 (FloatKind.f64.nearest (m : Int)), .int .i64 e] w fun s w' => s = .returned (.float .f64 (wordOf m e)) ∧ w = w' := by
    by_cases h0 : m = 0
    · subst h0
      have he : e = -1074 := by omega
      subst he
      exact ldexp_zero (-1074) w
    · exact ldexp_any m e w (by omega) hm he0 he1 hfull
  clear hm he0 he1 hfull
  obtain ⟨a, ha⟩ : ∃ a, FloatKind.f64.nearest (m : Int) = a := ⟨_, rfl⟩
  rw [ha] at c ⊢
  obtain ⟨r, hr⟩ : ∃ r, wordOf m e = r := ⟨_, rfl⟩
  rw [hr] at c ⊢
  clear ha hr
  go_enter Tryz.func85, Tryz.ntmps85
  go_wp2_with (go_at_call 115; refine c.mono ?_; rintro e w' ⟨rfl, rfl⟩)
  go_ret
  exact ⟨rfl, rfl⟩

set_option maxRecDepth 100000 in
set_option maxHeartbeats 4000000 in
theorem ratio_pos (vp vq : Value) (P Q : Nat) (w : World) (hP0 : 0 < P) (hQ0 : 0 < Q) (hP : Fit P 100000) (hQ : Fit Q 100000) (hr : ∀ e : Int, 0 < fAt P Q e → e ≤ 1100) (hp : IsN w vp P) (hq : IsN w vq Q) :
    Calls Tryz.prog 64 #[vp, vq] w fun e w' => ∃ e' : Int, Place P Q e' ∧ e = .returned (.float .f64 (ratWord (nAt P Q e') e')) ∧ Below w.heap.size w w' := by
  obtain ⟨ad, ca, rfl, h1⟩ := Reads32.at hp
  clear h1
  have n0 : (((dg P).length : Int) == 0) = false := by
    rw [beq_eq_false_iff_ne]
    intro h
    have : dg P = [] := List.eq_nil_of_length_eq_zero (by omega)
    have := (dg_nil P).1 this
    omega
  have cP := bits_any _ P w (by have := hP.len; omega) hp
  have cQ := bits_any _ Q w (by have := hQ.len; omega) hq
  have blP : blen P ≤ 1600000 := (hP.blen)
  have blQ : blen Q ≤ 1600000 := (hQ.blen)
  obtain ⟨E0, hE0⟩ : ∃ E0 : Int, (blen P : Int) - blen Q - 54 = E0 := ⟨_, rfl⟩
  have b1 : IntKind.i64.wrap ((blen P : Int) - blen Q) = (blen P : Int) - blen Q := IntWalk.i64_in _ (by omega)
  have b2 : IntKind.i64.wrap ((blen P : Int) - blen Q - 54) = E0 := by rw [IntWalk.i64_in _ (by omega)]; exact hE0
  have S0 := hideIt (RatAt.start P Q hP0 hQ0 E0 hE0.symm)
  have E0b : -3000000 ≤ E0 := by omega
  have HR := hideIt hr
  have HP0 := hideIt hP0
  have HQ0 := hideIt hQ0
  clear hE0 hr hP0 hQ0 blP blQ
  go_enter Tryz.func64, Tryz.ntmps64
  go_wp2_with fail
  refine cP.mono ?_
  rintro e w1 ⟨rfl, hw1⟩
  rw [hw1]
  clear hw1 w1
  go_wp2_with fail
  refine cQ.mono ?_
  rintro e w1 ⟨rfl, hw1⟩
  rw [hw1]
  clear hw1 w1
  clear cP cQ
  go_wp2_with fail
  go_loopw [5, 6, 7, 8, 9, 10, 11, 12] (fun ev _ _ _ _ _ _ _ wr => ∃ e : Int, ev = .int .i64 e ∧ -3000000 ≤ e ∧ e ≤ 1200 ∧ RatAt P Q e ∧ Below w.heap.size w wr)
    (fun ev _ _ _ _ _ _ _ _ => fAt P Q (max (RowKit.intOf ev) (-1074)))
  case atStart =>
    refine ⟨E0, rfl, E0b, ?_, S0.out, Below.refl _ _⟩
    rcases S0.out.full with h | h
    · omega
    · have := HR.out (max E0 (-1074) - 1) (by omega)
      omega
  case round =>
    obtain ⟨e, rfl, he0, he1, hra, hnx⟩ := hrel
    have HRA := hideIt hra
    clear hra
    obtain ⟨x, hx⟩ : ∃ x : Int, max e (-1074) = x := ⟨_, rfl⟩
    have HX := hideIt hx
    clear hx
    go_upto_if 23 with (fail)
    go_cut [5] (fun s5 wx => s5 = .int .i64 x ∧ wx = wr)
    case first =>
      by_cases hlt : e < -1074
      · have e1 : x = -1074 := by have := HX.out; omega
        subst e1
        go_wp2_with fail
        go_meet
        exact ⟨rfl, rfl⟩
      · have e1 : e = x := by have := HX.out; omega
        subst e1
        go_wp2_with fail
        go_meet
        exact ⟨rfl, rfl⟩
    case rest =>
      obtain ⟨rfl, hwc⟩ := hcut
      rw [hwc]
      clear hwc wc
      have hx0 : -1074 ≤ x := by have := HX.out; omega
      have hx1 : x ≤ 1200 := by have := HX.out; omega
      have HF : Hid (fAt P Q x < 2305843009213693952) := hideIt (by have := HRA.out.lt; rwa [HX.out] at this)
      obtain ⟨A, hA⟩ : ∃ A, P * 2 ^ (-x).toNat = A := ⟨_, rfl⟩
      obtain ⟨B, hB⟩ : ∃ B, Q * 2 ^ x.toNat = B := ⟨_, rfl⟩
      have FA : Fit A 110000 := by rw [← hA]; exact (hP.mul (Fit.pow 2 (-x).toNat (by omega))).le (by omega)
      have FB : Fit B 110000 := by rw [← hB]; exact (hQ.mul (Fit.pow 2 x.toNat (by omega))).le (by omega)
      have HA := hideIt hA
      have HB := hideIt hB
      clear hA hB
      go_wp2_with fail
      refine (power_int 2 x wr (by omega) (by omega)).mono ?_
      rintro r w1 ⟨v1, rfl, N1, hb1⟩
      have H1 : Below w.heap.size w w1 := hnx.trans (hb1.mono hnx.size)
      clear hb1
      go_upto_if 29 with (fail)
      go_cut [6, 7, 8] (fun a b t wx => IsN wx a A ∧ IsN wx b B ∧ Below w.heap.size w wx)
      case first =>
        by_cases hneg : x < 0
        · obtain ⟨m, rfl⟩ : ∃ m : Nat, x = -(m : Int) := ⟨(-x).toNat, by omega⟩
          have e1 : IntKind.i64.wrap (- -(m : Int)) = (m : Int) := by rw [Int.neg_neg]; exact IntWalk.i64_in _ (by omega)
          have hm : (- -(m : Int)).toNat = m := by omega
          have eA : P * 2 ^ m = A := by have := HA.out; rwa [hm] at this
          have eB : Q = B := by have := HB.out; rwa [show (-(m : Int)).toNat = 0 by omega, Nat.pow_zero, Nat.mul_one] at this
          subst eB
          have EA := hideIt eA
          clear eA hm
          go_wp2_with fail
          refine (power_any 2 m w1 (by omega) (by omega)).mono ?_
          rintro r w2 ⟨v2, rfl, N2, hb2⟩
          have H2 : Below w.heap.size w w2 := H1.trans (hb2.mono H1.size)
          have NP2 := hp.later H2
          have FM := Fit.pow 2 m (by omega)
          clear hb2
          go_wp2_with fail
          refine (mul_any _ _ P (2 ^ m) w2 (by have := hP.len; omega) (by have := FM.len; omega) NP2 N2).mono ?_
          rintro r w3 ⟨v3, rfl, N3, hb3⟩
          have H3 : Below w.heap.size w w3 := H2.trans (hb3.mono H2.size)
          rw [EA.out] at N3
          have NQ3 := hq.later H3
          clear hb3 NP2 N2
          go_wp2_with fail
          go_meet
          exact ⟨N3, NQ3, H3⟩
        · have eA : P = A := by have := HA.out; rwa [show (-x).toNat = 0 by omega, Nat.pow_zero, Nat.mul_one] at this
          subst eA
          have NQ1 := hq.later H1
          have FM := Fit.pow 2 x.toNat (by omega)
          go_wp2_with fail
          refine (mul_any _ _ Q (2 ^ x.toNat) w1 (by have := hQ.len; omega) (by have := FM.len; omega) NQ1 N1).mono ?_
          rintro r w3 ⟨v3, rfl, N3, hb3⟩
          have H3 : Below w.heap.size w w3 := H1.trans (hb3.mono H1.size)
          rw [HB.out] at N3
          have NP3 := hp.later H3
          clear hb3 NQ1 N1
          go_wp2_with fail
          go_meet
          exact ⟨NP3, N3, H3⟩
      case rest =>
        obtain ⟨NA, NB, H2⟩ := hcut
        clear N1 H1 hnx
        have hFd : fAt P Q x = A / B := by unfold fAt; rw [HA.out, HB.out]
        have hRd : rAt P Q x = A % B := by unfold rAt; rw [HA.out, HB.out]
        have hB0 : 0 < B := by rw [← HB.out]; exact Nat.mul_pos HQ0.out (Nat.pow_pos (by omega))
        have hqf : A < B * 2 ^ 61 := by
          have := HF.out
          rw [hFd, Nat.div_lt_iff_lt_mul hB0, Nat.mul_comm] at this
          exact this
        have cq := quo_any _ _ A B wc (FA.le (by omega)) (FB.le (by omega)) hqf NA NB
        rw [← hFd, ← hRd] at cq
        have hRB : rAt P Q x < B := by rw [hRd]; exact Nat.mod_lt _ hB0
        obtain ⟨F, hF⟩ : ∃ F, fAt P Q x = F := ⟨_, rfl⟩
        obtain ⟨R, hR⟩ : ∃ R, rAt P Q x = R := ⟨_, rfl⟩
        rw [hF, hR] at cq
        rw [hF] at HF
        rw [hR] at hRB
        have HFX := hideIt hF
        have HRX := hideIt hR
        have FR : Fit R 110000 := FB.sub (by omega)
        obtain ⟨Fi, hFi⟩ : ∃ Fi : Int, (F : Int) = Fi := ⟨_, rfl⟩
        rw [hFi] at cq
        have HFI := hideIt hFi
        have hF0 : 0 ≤ Fi := by omega
        clear hqf hFd hRd hF hR hFi
        go_wp2_with fail
        refine cq.mono ?_
        rintro r w3 ⟨v3, rfl, N3, hb3⟩
        have H3 : Below w.heap.size w w3 := H2.trans (hb3.mono H2.size)
        have NB3 := NB.later hb3
        clear hb3 cq NA NB H2
        by_cases hbig : (9007199254740992 : Int) ≤ Fi
        · have hst := hideIt (HRA.out.step HQ0.out (by rw [HX.out, HFX.out]; have := HFI.out; omega))
          have hx2 : x ≤ 1100 := HR.out x (by rw [HFX.out]; have := HFI.out; omega)
          go_wp2_with fail
          refine ⟨⟨x + 1, rfl, by omega, by omega, ?_, H3⟩, ?_⟩
          · have := hst.out.1; rwa [HX.out] at this
          · have := hst.out.2; rw [HX.out] at this; simp only [RowKit.intOf]; rw [HX.out]; exact this
        · have HPL : Hid (Place P Q x) := hideIt (by have := HRA.out.place HQ0.out (by rw [HX.out, HFX.out]; have := HFI.out; omega); rwa [HX.out] at this)
          go_wp2_with fail
          refine (add_any _ _ R R w3 (by have := FR.len; omega) (by have := FR.len; omega) N3 N3).mono ?_
          rintro r w4 ⟨v4, rfl, N4, hb4⟩
          have H4 : Below w.heap.size w w4 := H3.trans (hb4.mono H3.size)
          have NB4 := NB3.later hb4
          clear hb4 N3 NB3 H3
          go_wp2_with fail
          refine (cmp_below _ _ (R + R) B w4 ((FR.add FR).le (by omega)) (FB.le (by omega)) N4 NB4).mono ?_
          rintro r w5 ⟨c, rfl, hc, hb5⟩
          have H5 : Below w.heap.size w w5 := H4.trans (hb5.mono H4.size)
          have HC := hideIt hc
          clear hb5 hc N4 NB4 H4
          obtain ⟨up, hup⟩ : ∃ up : Bool, decide (B < 2 * R ∨ (2 * R = B ∧ F % 2 = 1)) = up := ⟨_, rfl⟩
          have HUP := hideIt hup
          clear hup
          go_upto_region 18 with (fail)
          go_cut [65] (fun bv wx => bv = .bool up ∧ Below w.heap.size w wx)
          case first =>
            obtain ⟨k1, k2⟩ := HC.out
            have hFF := HFI.out
            by_cases c1 : 0 < c
            · have hu : up = true := by rw [← HUP.out]; exact decide_eq_true (.inl (by omega))
              subst hu
              have c2 : decide (0 < c) = true := decide_eq_true c1
              clear k1 k2 hFF
              go_wp2_with fail
              go_meet
              exact ⟨rfl, H5⟩
            · have c2 : decide (0 < c) = false := decide_eq_false c1
              by_cases c3 : c = 0
              · subst c3
                by_cases hod : Fi % 2 = 1
                · have hu : up = true := by rw [← HUP.out]; exact decide_eq_true (.inr (by omega))
                  subst hu
                  have c4 : (Fi % 2 == 1) = true := by rw [beq_iff_eq]; exact hod
                  clear k1 k2 hFF hod
                  go_wp2_with fail
                  go_meet
                  exact ⟨rfl, H5⟩
                · have hu : up = false := by rw [← HUP.out]; exact decide_eq_false (by omega)
                  subst hu
                  have c4 : (Fi % 2 == 1) = false := by rw [beq_eq_false_iff_ne]; exact hod
                  clear k1 k2 hFF hod
                  go_wp2_with fail
                  go_meet
                  exact ⟨rfl, H5⟩
              · have hu : up = false := by rw [← HUP.out]; exact decide_eq_false (by omega)
                subst hu
                have c4 : (c == 0) = false := by rw [beq_eq_false_iff_ne]; exact c3
                clear k1 k2 hFF c3
                go_wp2_with fail
                go_meet
                exact ⟨rfl, H5⟩
          case rest =>
            obtain ⟨rfl, H6⟩ := hcut
            have HN : Hid (nAt P Q x = if up then F + 1 else F) := hideIt (by
              unfold nAt
              rw [HFX.out, HRX.out, HB.out, ← HUP.out]
              by_cases hu : B < 2 * R ∨ 2 * R = B ∧ F % 2 = 1
              · rw [if_pos hu, decide_eq_true hu]; rfl
              · rw [if_neg hu, decide_eq_false hu]; rfl)
            obtain ⟨n, hn⟩ : ∃ n, nAt P Q x = n := ⟨_, rfl⟩
            have HNX := hideIt hn
            have HNL : Hid (n ≤ 9007199254740992 ∧ (4503599627370496 ≤ n ∨ x = -1074)) := hideIt (by have := nAt_le HPL.out; rwa [hn] at this)
            clear hn
            go_upto_if 65 with (fail)
            go_cut [9] (fun nv wx => nv = .int .u64 (n : Int) ∧ wx = wc)
            case first =>
              cases up
              · have g1 : Fi = (n : Int) := by
                  have a := HN.out
                  have b := HFI.out
                  rw [HNX.out, if_neg Bool.false_ne_true] at a
                  omega
                subst g1
                go_wp2_with fail
                go_meet
                exact ⟨rfl, rfl⟩
              · have g1 : IntKind.u64.wrap (Fi + 1) = (n : Int) := by
                  have a := HN.out
                  have b := HFI.out
                  rw [HNX.out, if_pos rfl] at a
                  exact u64_in _ _ (by omega) (by omega)
                go_wp2_with fail
                go_meet
                exact ⟨rfl, rfl⟩
            case rest =>
              obtain ⟨rfl, hwc⟩ := hcut
              rw [hwc]
              clear hwc HN HFI HUP HF hbig hF0 HC
              by_cases h971 : (971 : Int) < x
              · go_wp2_with fail
                refine (inf_one _).mono ?_
                rintro r w6 ⟨rfl, rfl⟩
                go_wp2_with fail
                go_ret
                exact ⟨x, HPL.out, by rw [HNX.out, ratWord_inf HNL.out.2 h971]; rfl, H6⟩
              · have hfull := HNL.out.2
                have hle := HNL.out.1
                have cl := fun w => ldexp85 n x w hle hx0 (by omega) hfull
                have HLE := hideIt hle
                have HFU := hideIt hfull
                clear hle hfull
                go_wp2_with fail
                refine (cl _).mono ?_
                rintro r w6 ⟨rfl, rfl⟩
                go_wp2_with fail
                go_ret
                exact ⟨x, HPL.out, by rw [HNX.out, ratWord_fin HLE.out hx0 (by omega)]; rfl, H6⟩
end Go.Proofs.YtdijkobiffhgcaaGreatDoor.Nu
