/-
  The reference's NumText: how a number is written. Conditions: as each says.
-/
import Derived.Test.YtdijkobiffhgcaaGreatDoorOddW
import Derived.Test.YtdijkobiffhgcaaGreatDoorFewW
namespace Go.Proofs.YtdijkobiffhgcaaGreatDoor.Nu
open Go.RowKit Go.Lib

/-- what stands behind the digits. -/
def expo (z : Int) : List UInt8 := 101 :: signOf z
def posText (s : List UInt8) (pt : Int) : List UInt8 := textOf s pt expo

theorem nearest_top (m : Nat) (p : Int) : Ieee.double.nearest false m p ≤ 9218868437227405312 := by
  by_cases h : m = 0
  · subst h
    have : Ieee.double.nearest false 0 p = 0 := by unfold Ieee.Format.nearest; rw [if_pos rfl]; rfl
    omega
  · rw [nearest_rung false m p (by omega)]
    unfold Ieee.Format.word
    rw [if_neg Bool.false_ne_true]
    unfold rung
    omega
theorem cmp_lt_is {a b : Nat} (ha : a ≤ 9218868437227405312) (hb : b ≤ 9218868437227405312) : (FloatKind.f64.format.order a b == some .lt) = decide (a < b) := by
  have h : FloatKind.f64.format.order a b = some (compare a b) := order_pos a b ha hb
  rw [h]
  by_cases e : a < b
  · rw [Nat.compare_eq_lt.2 e, decide_eq_true e]; rfl
  · rw [decide_eq_false e]; exact cmp_lt_false (by omega)

theorem text1 (s : List UInt8) (pt : Int) (h1 : (s.length : Int) ≤ pt) (h2 : pt ≤ 21) : posText s pt = s ++ List.replicate (pt - s.length).toNat 48 := by
  unfold posText textOf; rw [if_pos ⟨h1, h2⟩]
theorem text2 (s : List UInt8) (pt : Int) (h1 : pt < (s.length : Int)) (h0 : 0 < pt) (h2 : pt ≤ 21) : posText s pt = s.take pt.toNat ++ 46 :: s.drop pt.toNat := by
  unfold posText textOf; rw [if_neg (by omega), if_pos ⟨h0, h2⟩]
theorem text3 (s : List UInt8) (pt : Int) (hs : 0 < s.length) (h0 : -6 < pt) (h2 : pt ≤ 0) : posText s pt = 48 :: 46 :: List.replicate (-pt).toNat 48 ++ s := by
  unfold posText textOf; rw [if_neg (by omega), if_neg (by omega), if_pos ⟨h0, h2⟩]
theorem text4 (s : List UInt8) (pt : Int) (hs : 0 < s.length) (h : 21 < pt ∨ pt ≤ -6) : posText s pt = (if s.length = 1 then s else s.take 1 ++ 46 :: s.drop 1) ++ expo (pt - 1) := by
  unfold posText textOf; rw [if_neg (by omega), if_neg (by omega), if_neg (by omega)]

theorem signOf_len (z : Int) (h : -100000 ≤ z ∧ z ≤ 100000) : (signOf z).length ≤ 100 := by
  unfold signOf
  have := decB_length z.natAbs 4 (Fit.u64 (by omega))
  rw [List.length_cons, dec_eq, List.length_reverse]
  omega

set_option maxRecDepth 100000 in
set_option maxHeartbeats 8000000 in
theorem numtext_pos (n : Nat) (e : Int) (h : Parts n e) (s : List UInt8) (pt : Int) (hsh : Shown n e s pt) (w : World) :
    Calls Tryz.prog 6 #[.float .f64 (wordOf n e)] w fun r w' => r = .returned (.string (bs (posText s pt))) ∧ Below w.heap.size w w' := by
  have T := tests_pos h
  have co := odd_ref T
  have t5 := T.t5
  have hb9 := word_lt h
  have ct := fun w => trunc_any (wordOf n e) n e (read_word n e h) w
  have cf := fun w => fewest_any n e h s pt hsh w
  obtain ⟨y, hy⟩ : ∃ y, Ieee.double.write ((Ieee.Datum.number false n e).integral .zero) = y := ⟨_, rfl⟩
  have HW := hideIt (fun (he : e ≤ 0) (ht : wordOf n e = y) => whole_of h he (by rw [hy]; exact ht))
  have HB53 := hideIt (below53 h)
  rw [hy] at ct
  have hyl : y ≤ 9218868437227405312 := by rw [← hy]; exact nearest_top _ _
  have HSH := hideIt hsh
  have HP := hideIt h
  obtain ⟨b, hb⟩ : ∃ b, wordOf n e = b := ⟨_, rfl⟩
  rw [hb] at co t5 ct cf HW HB53 hb9 ⊢
  have q1 := cmp_lt_is (a := b) (b := 4845873199050653696) (by omega) (by omega)
  have q2 := (order_eqb b y (by omega) hyl).1
  clear T hb hy hb9 h hsh hyl
  by_cases hwh : b < 4845873199050653696 ∧ b = y
  · have he0 : e ≤ 0 := HB53.out hwh.1
    obtain ⟨q, w1, w2, w3, w4⟩ := HW.out he0 hwh.2
    have hlaw := hideIt (law_whole HSH.out HP.out he0 q w1 expo)
    have kc : ∀ w, (convert 23 22 (.float .f64 b)).run Tryz.prog w = .ok (.int .u64 (q : Int)) w := fun w => run_convert_float_int w 23 22 .f64 .u64 b (q : Int) (by kernel_rfl) Tryz.underlying22 w4
    rw [decide_eq_true hwh.1] at q1
    rw [decide_eq_true hwh.2] at q2
    have hqb : q < 18446744073709551616 := by have := HP.out.lt; omega
    have cn := fun w => nat_any q w hqb
    have FQ := (Fit.u64 hqb).le (show 4 ≤ 30000 by omega)
    have H0 := hideIt w2
    clear hwh w1 w2 w3 w4 hqb HB53 HW he0 cf
    go_enter Tryz.func6, Tryz.ntmps6
    go_wp2_with fail
    refine (co w).mono ?_
    rintro r w1 ⟨rfl, rfl⟩
    clear co
    go_wp2_with fail
    refine (ct w).mono ?_
    rintro r w1 ⟨rfl, rfl⟩
    clear ct
    go_wp2_with fail
    refine (cn w).mono ?_
    rintro r w1 ⟨v1, rfl, N1, hb1⟩
    go_wp2_with fail
    refine (digits_pos _ q w1 (by have := H0.out; omega) FQ N1).mono ?_
    rintro r w2 ⟨rfl, hb2⟩
    go_wp2_with fail
    go_ret
    refine ⟨?_, hb1.trans (hb2.mono hb1.size)⟩
    unfold posText
    rw [hlaw.out]
    rfl
  · have hcut : ((FloatKind.f64.format.order b 4845873199050653696 == some .lt) = true ∧ (FloatKind.f64.format.order b y == some .eq) = false) ∨ (FloatKind.f64.format.order b 4845873199050653696 == some .lt) = false := by
      rw [q1, q2]
      by_cases h1 : b < 4845873199050653696
      · left; exact ⟨decide_eq_true h1, decide_eq_false (fun h2 => hwh ⟨h1, h2⟩)⟩
      · right; exact decide_eq_false h1
    have HCUT := hideIt hcut
    clear hwh q1 q2 hcut HB53 HW
    go_enter Tryz.func6, Tryz.ntmps6
    go_wp2_with fail
    refine (co w).mono ?_
    rintro r w1 ⟨rfl, rfl⟩
    clear co
    go_upto_region 7 with (fail)
    go_cut [34] (fun v wx => v = .bool false ∧ wx = w)
    case first =>
      rcases HCUT.out with ⟨c1, c2⟩ | c1
      · go_wp2_with fail
        refine (ct w).mono ?_
        rintro r w1 ⟨rfl, rfl⟩
        go_wp2_with fail
        go_meet
        exact ⟨rfl, rfl⟩
      · go_wp2_with fail
        go_meet
        exact ⟨rfl, rfl⟩
    case rest =>
      obtain ⟨rfl, hwc⟩ := hcut
      rw [hwc]
      clear hwc wc ct
      go_wp2_with fail
      refine (cf w).mono ?_
      rintro r w1 ⟨rfl, H1, hfb⟩
      obtain ⟨f1, f2, f3, f4⟩ := hfb
      have HT1 := hideIt (text1 s pt)
      have HT2 := hideIt (text2 s pt)
      have HT3 := hideIt (text3 s pt f1)
      have HT4 := hideIt (text4 s pt f1)
      clear cf
      obtain ⟨S, hS⟩ : ∃ S : ByteArray, (⟨s.toArray⟩ : ByteArray) = S := ⟨_, rfl⟩
      rw [hS]
      have hsz : S.size = s.length := by rw [← hS]; exact bs_size s
      have HS : Hid (bs s = S) := hideIt hS
      obtain ⟨m, hm⟩ : ∃ m, s.length = m := ⟨_, rfl⟩
      rw [hm] at hsz f1 f2
      have HM := hideIt hm
      clear hS hm
      have e0 : (S.size : Int) = (m : Int) := by omega
      have HSZ := hideIt hsz
      clear hsz
      by_cases a1 : (m : Int) ≤ pt
      · by_cases a2 : pt ≤ 21
        · obtain ⟨z, hz⟩ : ∃ z : Nat, pt - (m : Int) = (z : Int) := ⟨(pt - m).toNat, by omega⟩
          have g1 : IntKind.i64.wrap (pt - (m : Int)) = (z : Int) := by rw [hz]; exact IntWalk.i64_in _ (by omega)
          have cz := fun w => zeros_any z w (by omega)
          have hzs := bs_size (List.replicate z 48)
          rw [List.length_replicate] at hzs
          have hzb : z ≤ 21 := by omega
          have HZ := hideIt hz
          clear hz
          go_wp2_with fail
          refine (cz w1).mono ?_
          rintro r w2 ⟨rfl, rfl⟩
          clear cz
          obtain ⟨Z, hZ⟩ : ∃ Z, bs (List.replicate z 48) = Z := ⟨_, rfl⟩
          rw [hZ] at hzs ⊢
          have HZS := hideIt hZ
          have hz2 : Z.size ≤ 21 := by omega
          have hs2 : S.size ≤ 18 := by have := HSZ.out; omega
          clear hZ hzs
          go_wp2_with fail
          go_ret
          refine ⟨?_, H1⟩
          show Ending.returned (.string (S ++ Z)) = _
          have ht := HT1.out (by rw [HM.out]; exact a1) a2
          rw [HM.out, show (pt - (m : Int)).toNat = z by have := HZ.out; omega] at ht
          rw [ht, ← HS.out, ← HZS.out, bs_append]
        · have a3 : 0 < pt := by omega
          have a4 : -6 < pt := by omega
          have a5 : ¬ pt ≤ 0 := by omega
          have g2 : IntKind.i64.wrap (pt - 1) = pt - 1 := IntWalk.i64_in _ (by omega)
          have cdt := fun w => dotted_any s (by have := HM.out; omega) (by have := HM.out; omega) w
          have csm := fun w => small_text (pt - 1) (by omega) (by omega) w
          rw [HS.out] at cdt
          obtain ⟨A, hA⟩ : ∃ A, (if s.length = 1 then s else s.take 1 ++ 46 :: s.drop 1) = A := ⟨_, rfl⟩
          rw [hA] at cdt
          have hAl : A.length ≤ 100 := by
            have := HM.out
            rw [← hA]
            split
            · omega
            · rw [List.length_append, List.length_cons, List.length_take, List.length_drop]; omega
          have HAX := hideIt hA
          clear hA
          go_wp2_with fail
          refine (cdt w1).mono ?_
          rintro r w2 ⟨rfl, hb2⟩
          have H2 := H1.trans (hb2.mono H1.size)
          go_wp2_with fail
          refine (csm w2).mono ?_
          rintro r w3 ⟨rfl, hb3⟩
          have H3 := H2.trans (hb3.mono H2.size)
          have hBl := signOf_len (pt - 1) (by omega)
          obtain ⟨B, hB⟩ : ∃ B, signOf (pt - 1) = B := ⟨_, rfl⟩
          rw [hB] at hBl ⊢
          have HBX := hideIt hB
          have z1 := bs_size A
          have z2 := bs_size B
          obtain ⟨a, ha⟩ : ∃ a, bs A = a := ⟨_, rfl⟩
          obtain ⟨c, hc⟩ : ∃ c, bs B = c := ⟨_, rfl⟩
          rw [ha] at z1 ⊢
          rw [hc] at z2 ⊢
          have HAS := hideIt ha
          have HCS := hideIt hc
          have y1 : a.size ≤ 100 := by omega
          have y2 : c.size ≤ 100 := by omega
          clear hB ha hc z1 z2 hAl hBl hb2 hb3 cdt csm H2
          go_wp2_with fail
          go_ret
          refine ⟨?_, H3⟩
          show Ending.returned (.string (a ++ bs [101] ++ c)) = _
          have ht := HT4.out (by omega)
          rw [HAX.out] at ht
          rw [ht, ← HAS.out, ← HCS.out, bs_append, bs_append]
          unfold expo
          rw [HBX.out]
          simp
      · by_cases a3 : 0 < pt
        · obtain ⟨j, rfl⟩ : ∃ j : Nat, pt = (j : Int) := ⟨pt.toNat, by omega⟩
          have a2 : (j : Int) ≤ 21 := by omega
          have hs2 : S.size ≤ 18 := by have := HSZ.out; omega
          have a6 : (0 : Int) ≤ (j : Int) ∧ (j : Int) ≤ S.size := by have := HSZ.out; omega
          have a7 : j ≤ S.size := by omega
          go_wp2_with fail
          go_quiet (fail)
          go_wp2_with fail
          go_ret
          refine ⟨?_, below_draws H1 _⟩
          show Ending.returned (.string (S.extract 0 j ++ bs [46] ++ S.extract j S.size)) = _
          have ht := HT2.out (by rw [HM.out]; omega) a3 a2
          rw [show ((j : Int)).toNat = j by omega] at ht
          rw [ht, ← HS.out, bs_extract, bs_extract, bs_append, bs_append, bs_size, List.take_length]
          simp
        · by_cases a4 : -6 < pt
          · obtain ⟨z, rfl⟩ : ∃ z : Nat, pt = -(z : Int) := ⟨(-pt).toNat, by omega⟩
            have a5 : -(z : Int) ≤ 0 := by omega
            have g1 : IntKind.i64.wrap (- -(z : Int)) = (z : Int) := by rw [Int.neg_neg]; exact IntWalk.i64_in _ (by omega)
            have cz := fun w => zeros_any z w (by omega)
            have hzs := bs_size (List.replicate z 48)
            rw [List.length_replicate] at hzs
            have hzb : z ≤ 21 := by omega
            go_wp2_with fail
            refine (cz w1).mono ?_
            rintro r w2 ⟨rfl, rfl⟩
            clear cz
            obtain ⟨Z, hZ⟩ : ∃ Z, bs (List.replicate z 48) = Z := ⟨_, rfl⟩
            rw [hZ] at hzs ⊢
            have HZS := hideIt hZ
            have hz2 : Z.size ≤ 21 := by omega
            have hs2 : S.size ≤ 18 := by have := HSZ.out; omega
            clear hZ hzs
            go_wp2_with fail
            go_ret
            refine ⟨?_, H1⟩
            show Ending.returned (.string (bs [48, 46] ++ Z ++ S)) = _
            have ht := HT3.out a4 a5
            rw [show (- -(z : Int)).toNat = z by omega] at ht
            rw [ht, ← HS.out, ← HZS.out, bs_append, bs_append]
            simp
          · have a5 : pt ≤ 0 := by omega
            have g2 : IntKind.i64.wrap (pt - 1) = pt - 1 := IntWalk.i64_in _ (by omega)
            have cdt := fun w => dotted_any s (by have := HM.out; omega) (by have := HM.out; omega) w
            have csm := fun w => small_text (pt - 1) (by omega) (by omega) w
            rw [HS.out] at cdt
            obtain ⟨A, hA⟩ : ∃ A, (if s.length = 1 then s else s.take 1 ++ 46 :: s.drop 1) = A := ⟨_, rfl⟩
            rw [hA] at cdt
            have hAl : A.length ≤ 100 := by
              have := HM.out
              rw [← hA]
              split
              · omega
              · rw [List.length_append, List.length_cons, List.length_take, List.length_drop]; omega
            have HAX := hideIt hA
            clear hA
            go_wp2_with fail
            refine (cdt w1).mono ?_
            rintro r w2 ⟨rfl, hb2⟩
            have H2 := H1.trans (hb2.mono H1.size)
            go_wp2_with fail
            refine (csm w2).mono ?_
            rintro r w3 ⟨rfl, hb3⟩
            have H3 := H2.trans (hb3.mono H2.size)
            have hBl := signOf_len (pt - 1) (by omega)
            obtain ⟨B, hB⟩ : ∃ B, signOf (pt - 1) = B := ⟨_, rfl⟩
            rw [hB] at hBl ⊢
            have HBX := hideIt hB
            have z1 := bs_size A
            have z2 := bs_size B
            obtain ⟨a, ha⟩ : ∃ a, bs A = a := ⟨_, rfl⟩
            obtain ⟨c, hc⟩ : ∃ c, bs B = c := ⟨_, rfl⟩
            rw [ha] at z1 ⊢
            rw [hc] at z2 ⊢
            have HAS := hideIt ha
            have HCS := hideIt hc
            have y1 : a.size ≤ 100 := by omega
            have y2 : c.size ≤ 100 := by omega
            clear hB ha hc z1 z2 hAl hBl hb2 hb3 cdt csm H2
            go_wp2_with fail
            go_ret
            refine ⟨?_, H3⟩
            show Ending.returned (.string (a ++ bs [101] ++ c)) = _
            have ht := HT4.out (by omega)
            rw [HAX.out] at ht
            rw [ht, ← HAS.out, ← HCS.out, bs_append, bs_append]
            unfold expo
            rw [HBX.out]
            simp
end Go.Proofs.YtdijkobiffhgcaaGreatDoor.Nu
