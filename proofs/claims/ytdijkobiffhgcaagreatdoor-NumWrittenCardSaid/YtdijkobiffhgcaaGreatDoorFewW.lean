/-
  The reference's Fewest: the fewest digits and the point. Conditions: a finite number above 0.
-/
import Derived.Test.YtdijkobiffhgcaaGreatDoorFewP
namespace Go.Proofs.YtdijkobiffhgcaaGreatDoor.Nu
open Go.RowKit Go.Lib

def hits (n : Nat) (e n0 : Int) (k : Nat) : Prop :=
  inI n e (yloOf n e) (yhiOf n) (k - n0) (lowAt n e (k - n0)) ∨ inI n e (yloOf n e) (yhiOf n) (k - n0) (lowAt n e (k - n0) + 1)

structure FewAt (n : Nat) (e n0 : Int) (k : Nat) : Prop where
  none : ∀ k', 1 ≤ k' → k' < k → ¬ hits n e n0 k'
theorem FewAt.step {n : Nat} {e n0 : Int} {k : Nat} (h : FewAt n e n0 k) (hn : ¬ hits n e n0 k) : FewAt n e n0 (k + 1) :=
  ⟨fun k' h1 h2 => by
    rcases Nat.lt_or_ge k' k with g | g
    · exact h.none k' h1 g
    · obtain rfl : k' = k := by omega
      exact hn⟩
theorem FewAt.le {n : Nat} {e n0 : Int} {k : Nat} (h : FewAt n e n0 k) (hp : Parts n e) (hpt : IsPoint n e n0) : k ≤ 18 := by
  rcases Nat.lt_or_ge 18 k with g | g
  · exact absurd (.inl (few_hit n e n0 hp hpt 18 (by omega))) (h.none 18 (by omega) g)
  · exact g

/-- sizes of what comes out. -/
structure FewB (s : List UInt8) (pt : Int) : Prop where
  pos : 0 < s.length
  le : s.length ≤ 18
  lo : -330 ≤ pt
  hi : pt ≤ 330
theorem Shown.pos {n : Nat} {e : Int} {s : List UInt8} {pt : Int} (h : Shown n e s pt) : 0 < s.length := by
  obtain ⟨j, d', _, h2, rfl, _⟩ := h.ex
  exact dec_pos d' (by intro h0; rw [h0] at h2; omega)

/-- the answer. -/
def Answer (s : List UInt8) (pt n0 : Int) (k T : Nat) : Prop := if k < (dec T).length then s = [49] ∧ pt = n0 + 1 else s = dec T ∧ pt = n0

set_option maxRecDepth 100000 in
set_option maxHeartbeats 8000000 in
theorem fewest_any (n : Nat) (e : Int) (h : Parts n e) (s : List UInt8) (pt : Int) (hsh : Shown n e s pt) (w : World) :
    Calls Tryz.prog 16 #[.float .f64 (wordOf n e)] w fun r w' => r = .returned (.tuple #[.string ⟨s.toArray⟩, .int .i64 pt]) ∧ Below w.heap.size w w' ∧ FewB s pt := by
  have cp := point_any n e h w
  have cS : ∀ (k : Int) (w : World), -70000 ≤ k → k ≤ 70000 → _ := fun k w h0 h1 => scaled_any n e k h h0 h1 w
  have hbw := word_lt h
  have HSH := hideIt hsh
  have HP := hideIt h
  have HDI := hideIt (fun (d : Nat) (p : Int) (r : Nat) (hd : DecIs d p r) => hd.2 n e h)
  obtain ⟨b, hb⟩ : ∃ b, wordOf n e = b := ⟨_, rfl⟩
  rw [hb] at cp cS hbw HDI ⊢
  have HBW := hideIt hbw
  clear hb h hsh hbw
  go_enter Tryz.func16, Tryz.ntmps16
  go_wp2_with fail
  refine cp.mono ?_
  rintro r w0 ⟨n0, rfl, hpt, H0⟩
  have HPT := hideIt hpt
  obtain ⟨r0, r1⟩ := point_range n e n0 HP.out hpt
  clear cp hpt
  go_wp2_with fail
  go_loopw [5, 6, 7, 8, 9, 10, 11, 12, 13, 14, 15, 16] (fun kv _ _ _ _ _ _ _ _ _ _ _ wr => ∃ k : Nat, kv = .int .i64 k ∧ 1 ≤ k ∧ FewAt n e n0 k ∧ Below w.heap.size w wr)
    (fun kv _ _ _ _ _ _ _ _ _ _ _ _ => (100 - RowKit.intOf kv).toNat)
  case atStart => exact ⟨1, rfl, by omega, ⟨fun k' h1 h2 => by omega⟩, H0⟩
  case round =>
    obtain ⟨k, rfl, k1, hfa, hnx⟩ := hrel
    have k18 := hfa.le HP.out HPT.out
    have HFA := hideIt hfa
    obtain ⟨lr0, lr1⟩ := low_range n e n0 HPT.out k k1
    have hk60 : 10 ^ k ≤ 1000000000000000000 := by
      have : 10 ^ k ≤ 10 ^ 18 := Nat.pow_le_pow_right (by omega) k18
      exact this
    have hk1p : 1 ≤ 10 ^ (k - 1) := Nat.one_le_pow _ _ (by omega)
    obtain ⟨FP, FQ⟩ := num_fit n e (k - n0) HP.out (by omega)
    have hqf : n * num e (k - n0) < den e (k - n0) * 2 ^ 61 := by
      have a := pt_low n e n0 HPT.out k
      have b := Nat.mul_le_mul_right (den e (k - n0)) hk60
      rw [Nat.mul_comm (den e (k - n0))]
      have c : (2 : Nat) ^ 61 = 2305843009213693952 := by decide
      rw [c]
      omega
    obtain ⟨L, hL⟩ : ∃ L, lowAt n e (k - n0) = L := ⟨_, rfl⟩
    obtain ⟨R, hR⟩ : ∃ R, leftAt n e (k - n0) = R := ⟨_, rfl⟩
    have hLd : n * num e (k - n0) / den e (k - n0) = L := hL
    have hRd : n * num e (k - n0) % den e (k - n0) = R := hR
    have FR : Fit R 30000 := by rw [← hRd]; exact FQ.sub (Nat.le_of_lt (Nat.mod_lt _ (den_pos _ _)))
    have cq := fun vp vq w => quo_any vp vq (n * num e (k - n0)) (den e (k - n0)) w (FP.le (by omega)) (FQ.le (by omega)) hqf
    rw [hLd, hRd] at cq
    rw [hL] at lr0 lr1
    have L0 : 0 < L := by omega
    have FL := (Fit.u64 (X := L) (by omega)).le (show 4 ≤ 10 by omega)
    have FL1 := (Fit.u64 (X := L + 1) (by omega)).le (show 4 ≤ 10 by omega)
    have cn := fun w => nat_any L w (by omega)
    have cn1 := fun w => nat_any (L + 1) w (by omega)
    have tp0 := fun e' => dec_top L k n0 (by omega) (by omega) e'
    have tp1 := fun e' => dec_top (L + 1) k n0 (by omega) (by omega) e'
    have cd0 := fun vs w => decimal_any vs L (n0 - k) w L0 FL (by omega) tp0
    have cd1 := fun vs w => decimal_any vs (L + 1) (n0 - k) w (by omega) FL1 (by omega) tp1
    have eL : IntKind.u64.wrap ((L : Int) + 1) = ((L + 1 : Nat) : Int) := u64_in _ _ (by omega) (by omega)
    have e1 : IntKind.i64.wrap ((k : Int) - n0) = (k : Int) - n0 := IntWalk.i64_in _ (by omega)
    have e2 : IntKind.i64.wrap (n0 - (k : Int)) = n0 - (k : Int) := IntWalk.i64_in _ (by omega)
    have HLX := hideIt hL
    have HRX := hideIt hR
    have HL0 := hideIt L0
    have HL1 := hideIt (show L + 1 ≤ 10 ^ k by omega)
    clear hfa lr0 lr1 hk60 hk1p hqf hL hR hLd hRd L0 tp0 tp1 FP
    go_wp2_with fail
    refine (cS (k - n0) wr (by omega) (by omega)).mono ?_
    rintro r w1 ⟨vp, vq, rfl, NP, NQ, hb1⟩
    have H1 := hnx.trans (hb1.mono hnx.size)
    clear hb1
    go_wp2_with fail
    refine (cq vp vq w1 NP NQ).mono ?_
    rintro r w2 ⟨v2, rfl, N2, hb2⟩
    have H2 := H1.trans (hb2.mono H1.size)
    have NQ2 := NQ.later hb2
    clear hb2 cq H1 NP NQ
    go_wp2_with fail
    refine (cn w2).mono ?_
    rintro r w3 ⟨va, rfl, NA, hb3⟩
    have H3 := H2.trans (hb3.mono H2.size)
    have NQ3 := NQ2.later hb3
    have N3 := N2.later hb3
    clear hb3 cn H2 NQ2 N2
    go_wp2_with fail
    refine (cn1 w3).mono ?_
    rintro r w4 ⟨vb, rfl, NB, hb4⟩
    have H4 := H3.trans (hb4.mono H3.size)
    have NQ4 := NQ3.later hb4
    have N4 := N3.later hb4
    have NA4 := NA.later hb4
    clear hb4 cn1 H3 NQ3 N3 NA
    go_wp2_with fail
    refine (cd0 va w4 NA4).mono ?_
    rintro r w5 ⟨x1, rfl, hd1, hb5⟩
    have H5 := H4.trans (hb5.mono H4.size)
    have NQ5 := NQ4.later hb5
    have N5 := N4.later hb5
    have NA5 := NA4.later hb5
    have NB5 := NB.later hb5
    clear hb5 cd0 H4 NQ4 N4 NA4 NB
    go_wp2_with fail
    refine (cd1 vb w5 NB5).mono ?_
    rintro r w6 ⟨x2, rfl, hd2, hb6⟩
    have H6 := H5.trans (hb6.mono H5.size)
    have NQ6 := NQ5.later hb6
    have N6 := N5.later hb6
    have NA6 := NA5.later hb6
    have NB6 := NB5.later hb6
    clear hb6 cd1 H5 NQ5 N5 NA5 NB5
    obtain ⟨t1, t2⟩ := order_eqb x1 b hd1.1 (Nat.le_of_lt HBW.out)
    obtain ⟨t3, t4⟩ := order_eqb x2 b hd2.1 (Nat.le_of_lt HBW.out)
    have i1 : Hid (x1 = b ↔ inI n e (yloOf n e) (yhiOf n) (k - n0) L) := hideIt (by have := HDI.out _ _ _ hd1; rwa [show -(n0 - (k : Int)) = k - n0 by omega] at this)
    have i2 : Hid (x2 = b ↔ inI n e (yloOf n e) (yhiOf n) (k - n0) (L + 1)) := hideIt (by have := HDI.out _ _ _ hd2; rwa [show -(n0 - (k : Int)) = k - n0 by omega] at this)
    obtain ⟨h1, hh1⟩ : ∃ h1, decide (x1 = b) = h1 := ⟨_, rfl⟩
    obtain ⟨h2, hh2⟩ : ∃ h2, decide (x2 = b) = h2 := ⟨_, rfl⟩
    rw [hh1] at t1 t2
    rw [hh2] at t3 t4
    have HH1 := hideIt hh1
    have HH2 := hideIt hh2
    clear hd1 hd2 hh1 hh2
    go_upto_region 10 with (fail)
    go_cut [57] (fun bv wx => bv = .bool (!h1 && !h2) ∧ wx = w6)
    case first =>
      cases h1 <;> cases h2
      all_goals
        go_wp2_with fail
        go_meet
        exact ⟨rfl, rfl⟩
    case rest =>
      obtain ⟨rfl, hwc⟩ := hcut
      rw [hwc]
      clear hwc wc
      obtain ⟨v, hv⟩ : ∃ v, (!h1 && !h2) = v := ⟨_, rfl⟩
      rw [hv]
      have HV := hideIt hv
      clear hv
      cases v
      · go_wp2_with fail
        refine (add_any _ _ R R w6 (by have := FR.len; omega) (by have := FR.len; omega) N6 N6).mono ?_
        rintro r w7 ⟨v7, rfl, N7, hb7⟩
        have H7 := H6.trans (hb7.mono H6.size)
        have NQ7 := NQ6.later hb7
        have NA7 := NA6.later hb7
        have NB7 := NB6.later hb7
        clear hb7 H6 NQ6 N6 NA6 NB6
        go_wp2_with fail
        refine (cmp_below _ _ (R + R) (den e (k - n0)) w7 ((FR.add FR).le (by omega)) (FQ.le (by omega)) N7 NQ7).mono ?_
        rintro r w8 ⟨c, rfl, hc, hb8⟩
        have H8 := H7.trans (hb8.mono H7.size)
        have NA8 := NA7.later hb8
        have NB8 := NB7.later hb8
        have HC := hideIt hc
        clear hb8 H7 NQ7 N7 NA7 NB7 hc
        obtain ⟨up, hup⟩ : ∃ up, takeUp n e (yloOf n e) (yhiOf n) (k - n0) = up := ⟨_, rfl⟩
        have HU : Hid ((h2 && (!h1 || decide (den e (k - n0) < 2 * R) || (decide (2 * R = den e (k - n0)) && decide (L % 2 = 1)))) = up) := hideIt (by
          rw [← hup]
          unfold takeUp
          rw [HLX.out, HRX.out, ← HH1.out, ← HH2.out]
          have q1 : decide (inI n e (yloOf n e) (yhiOf n) (k - n0) L) = decide (x1 = b) := decide_eq_decide.2 i1.out.symm
          have q2 : decide (inI n e (yloOf n e) (yhiOf n) (k - n0) (L + 1)) = decide (x2 = b) := decide_eq_decide.2 i2.out.symm
          rw [q1, q2])
        have HUP := hideIt hup
        clear hup
        go_upto_region 13 with (fail)
        go_cut [15] (fun bv wx => bv = .bool up ∧ wx = w8)
        case first =>
          have hu := HU.out
          obtain ⟨k1, k2⟩ := HC.out
          cases h2
          · have hu' : up = false := by rw [← hu]; rfl
            subst hu'
            clear hu k1 k2
            go_wp2_with fail
            go_meet
            exact ⟨rfl, rfl⟩
          · cases h1
            · have hu' : up = true := by rw [← hu]; rfl
              subst hu'
              clear hu k1 k2
              go_wp2_with fail
              go_meet
              exact ⟨rfl, rfl⟩
            · have hu2 : (decide (den e (k - n0) < 2 * R) || (decide (2 * R = den e (k - n0)) && decide (L % 2 = 1))) = up := by rw [← hu]; simp
              clear hu
              by_cases c1 : 0 < c
              · have hu' : up = true := by rw [← hu2, decide_eq_true (by omega)]; rfl
                subst hu'
                have c2 : decide (0 < c) = true := decide_eq_true c1
                clear hu2 k1 k2
                go_wp2_with fail
                go_meet
                exact ⟨rfl, rfl⟩
              · have c2 : decide (0 < c) = false := decide_eq_false c1
                by_cases c3 : c = 0
                · by_cases hod : L % 2 = 1
                  · have hu' : up = true := by rw [← hu2, decide_eq_true hod, decide_eq_true (show 2 * R = den e (k - n0) by omega)]; simp
                    subst hu'
                    have c4 : ((L : Int) % 2 == 1) = true := by rw [beq_iff_eq]; omega
                    subst c3
                    clear hu2 k1 k2 hod
                    go_wp2_with fail
                    go_meet
                    exact ⟨rfl, rfl⟩
                  · have hu' : up = false := by rw [← hu2, decide_eq_false hod, decide_eq_false (show ¬ den e (k - n0) < 2 * R by omega)]; simp
                    subst hu'
                    have c4 : ((L : Int) % 2 == 1) = false := by rw [beq_eq_false_iff_ne]; omega
                    subst c3
                    clear hu2 k1 k2 hod
                    go_wp2_with fail
                    go_meet
                    exact ⟨rfl, rfl⟩
                · have hu' : up = false := by rw [← hu2, decide_eq_false (show ¬ den e (k - n0) < 2 * R by omega), decide_eq_false (show ¬ 2 * R = den e (k - n0) by omega)]; rfl
                  subst hu'
                  have c4 : (c == 0) = false := by rw [beq_eq_false_iff_ne]; exact c3
                  clear hu2 k1 k2 c3
                  go_wp2_with fail
                  go_meet
                  exact ⟨rfl, rfl⟩
        case rest =>
          obtain ⟨rfl, hwc⟩ := hcut
          rw [hwc]
          clear hwc wc
          have HT : Hid (taken n e (yloOf n e) (yhiOf n) (k - n0) = if up = true then L + 1 else L) := hideIt (by unfold taken; rw [HUP.out, HLX.out])
          obtain ⟨T, hT⟩ : ∃ T, taken n e (yloOf n e) (yhiOf n) (k - n0) = T := ⟨_, rfl⟩
          have HTX := hideIt hT
          clear hT
          have HAns : Hid (Answer s pt n0 k T) := hideIt (by
            have hk := law_few HSH.out HP.out n0 HPT.out k k1 (by
              have a := HV.out
              have b1 := HH1.out
              have b2 := HH2.out
              rw [HLX.out]
              by_cases q1 : h1 = true
              · rw [q1] at b1
                exact .inl (i1.out.1 (of_decide_eq_true b1))
              · by_cases q2 : h2 = true
                · rw [q2] at b2
                  exact .inr (i2.out.1 (of_decide_eq_true b2))
                · simp only [Bool.not_eq_true] at q1 q2
                  rw [q1, q2] at a
                  cases a) (fun k' h1 h2 => by
                have := HFA.out.none k' h1 h2
                exact ⟨fun q => this (.inl q), fun q => this (.inr q)⟩)
            rw [HTX.out] at hk
            exact hk)
          go_wp2_with fail
          refine (digits_pos _ L w8 (by have := HL0.out; omega) (FL.le (by omega)) NA8).mono ?_
          rintro r w9 ⟨rfl, hb9⟩
          have H9 := H8.trans (hb9.mono H8.size)
          have NB9 := NB8.later hb9
          clear hb9 NA8 NB8 H8
          go_upto_if 87 with (fail)
          go_cut [16] (fun sv wx => sv = .string ⟨(dec T).toArray⟩ ∧ Below w.heap.size w wx)
          case first =>
            have ht := HT.out
            rw [HTX.out] at ht
            cases up
            · rw [if_neg Bool.false_ne_true] at ht
              subst ht
              go_wp2_with fail
              go_meet
              exact ⟨rfl, H9⟩
            · rw [if_pos rfl] at ht
              subst ht
              go_wp2_with fail
              refine (digits_pos _ (L + 1) w9 (by omega) (FL1.le (by omega)) NB9).mono ?_
              rintro r w10 ⟨rfl, hb10⟩
              have H10 := H9.trans (hb10.mono H9.size)
              go_wp2_with fail
              go_meet
              exact ⟨rfl, H10⟩
          case rest =>
            obtain ⟨rfl, H10⟩ := hcut
            obtain ⟨l, hl⟩ : ∃ l, dec T = l := ⟨_, rfl⟩
            rw [hl]
            have HA2 : Hid (if k < l.length then s = [49] ∧ pt = n0 + 1 else s = l ∧ pt = n0) := hideIt (by have := HAns.out; unfold Answer at this; rwa [hl] at this)
            clear hl HAns NB9 H9
            have e4 : IntKind.i64.wrap (n0 + 1) = n0 + 1 := IntWalk.i64_in _ (by omega)
            by_cases hlen : k < l.length
            · have ha := HA2.out
              rw [if_pos hlen] at ha
              obtain ⟨rfl, rfl⟩ := ha
              have hlen2 : (k : Int) < (l.length : Int) := by omega
              go_wp2_with fail
              go_ret2
              exact ⟨rfl, H10, ⟨by simp, by simp, by omega, by omega⟩⟩
            · have ha := HA2.out
              rw [if_neg hlen] at ha
              obtain ⟨rfl, rfl⟩ := ha
              have hlen2 : ¬ (k : Int) < (s.length : Int) := by omega
              go_wp2_with fail
              go_ret2
              exact ⟨rfl, H10, ⟨HSH.out.pos, by omega, by omega, by omega⟩⟩
      · have hst : Hid (FewAt n e n0 (k + 1)) := hideIt (HFA.out.step (by
          have a := HV.out
          have b1 := HH1.out
          have b2 := HH2.out
          rw [Bool.and_eq_true, Bool.not_eq_true', Bool.not_eq_true'] at a
          rw [a.1] at b1
          rw [a.2] at b2
          rintro (q | q)
          · exact (of_decide_eq_false b1) (i1.out.2 (by rw [← HLX.out]; exact q))
          · exact (of_decide_eq_false b2) (i2.out.2 (by rw [← HLX.out]; exact q))))
        have e3 : IntKind.i64.wrap ((k : Int) + 1) = (k : Int) + 1 := IntWalk.i64_in _ (by omega)
        go_wp2_with fail
        exact ⟨⟨k + 1, by first | rfl | go_num, by omega, hst.out, H6⟩, by simp only [RowKit.intOf]; omega⟩
end Go.Proofs.YtdijkobiffhgcaaGreatDoor.Nu
