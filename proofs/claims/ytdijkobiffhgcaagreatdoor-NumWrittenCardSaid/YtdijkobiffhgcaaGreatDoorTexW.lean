/-
  The program's Text: how a number is written. Conditions: the tables lie as told.
-/
import Derived.Test.YtdijkobiffhgcaaGreatDoorDgtW
import Derived.Test.YtdijkobiffhgcaaGreatDoorRefW
namespace Go.Proofs.YtdijkobiffhgcaaGreatDoor.Nu
open Go.RowKit Go.Lib

set_option maxRecDepth 100000 in
set_option maxHeartbeats 8000000 in
theorem text_pos (n : Nat) (e : Int) (h : Parts n e) (s : List UInt8) (pt : Int) (hsh : Shown n e s pt) (w : World) (hw : Laid w) :
    Calls Tryz.prog 5 #[.float .f64 (wordOf n e)] w fun r w' => r = .returned (.string (bs (posText s pt))) ∧ Below w.heap.size w w' := by
  have T := tests_pos h
  have co := odd_any T (fun h => by cases h)
  have t5 := T.t5
  have cD := digits_any n e h s pt hsh w hw
  obtain ⟨f1, f2, f3, f4⟩ := fewC h hsh
  obtain ⟨b, hb⟩ : ∃ b, wordOf n e = b := ⟨_, rfl⟩
  rw [hb] at co t5 cD ⊢
  have HW := hideIt hw
  clear T hb h hsh hw
  go_enter Tryz.func5, Tryz.ntmps5
  go_wp2_with fail
  refine (co w).mono ?_
  rintro r w1 ⟨rfl, rfl⟩
  clear co
  go_wp2_with fail
  refine cD.mono ?_
  rintro r w1 ⟨rfl, H1⟩
  clear cD
  have HT1 := hideIt (text1 s pt)
  have HT2 := hideIt (text2 s pt)
  have HT3 := hideIt (text3 s pt f1)
  have HT4 := hideIt (text4 s pt f1)
  obtain ⟨S, hS⟩ : ∃ S : ByteArray, bs s = S := ⟨_, rfl⟩
  rw [hS]
  have hsz : S.size = s.length := by rw [← hS]; exact bs_size s
  have HS : Hid (bs s = S) := hideIt hS
  obtain ⟨m, hm⟩ : ∃ m, s.length = m := ⟨_, rfl⟩
  rw [hm] at hsz f1 f2
  have HM := hideIt hm
  clear hS hm
  have e0 : (S.size : Int) = (m : Int) := by omega
  have HSZ := hideIt hsz
  clear hsz
  by_cases a1 : (m : Int) ≤ pt
  · by_cases a2 : pt ≤ 21
    · obtain ⟨z, hz⟩ : ∃ z : Nat, pt - (m : Int) = (z : Int) := ⟨(pt - m).toNat, by omega⟩
      have g1 : IntKind.i64.wrap (pt - (m : Int)) = (z : Int) := by rw [hz]; exact IntWalk.i64_in _ (by omega)
      have cz := fun w => repeat_any z w (by omega)
      have hzs := bs_size (List.replicate z 48)
      rw [List.length_replicate] at hzs
      have hzb : z ≤ 21 := by omega
      have HZ := hideIt hz
      clear hz
      go_wp2_with fail
      refine (cz w1).mono ?_
      rintro r w2 ⟨rfl, hb2⟩
      have H2 := H1.trans (hb2.mono H1.size)
      clear cz hb2
      obtain ⟨Z, hZ⟩ : ∃ Z, bs (List.replicate z 48) = Z := ⟨_, rfl⟩
      rw [hZ] at hzs ⊢
      have HZS := hideIt hZ
      have hz2 : Z.size ≤ 21 := by omega
      have hs2 : S.size ≤ 20 := by have := HSZ.out; omega
      clear hZ hzs
      go_wp2_with fail
      go_ret
      refine ⟨?_, H2⟩
      show Ending.returned (.string (S ++ Z)) = _
      have ht := HT1.out (by rw [HM.out]; exact a1) a2
      rw [HM.out, show (pt - (m : Int)).toNat = z by have := HZ.out; omega] at ht
      rw [ht, ← HS.out, ← HZS.out, bs_append]
    · have a3 : 0 < pt := by omega
      have a4 : -6 < pt := by omega
      have a5 : ¬ pt ≤ 0 := by omega
      have g2 : IntKind.i64.wrap (pt - 1) = pt - 1 := IntWalk.i64_in _ (by omega)
      have cdt := fun w => dot_any s (by have := HM.out; omega) (by have := HM.out; omega) w
      have csm := fun w hT => expo_any (pt - 1) (by omega) (by omega) w hT
      rw [HS.out] at cdt
      obtain ⟨A, hA⟩ : ∃ A, (if s.length = 1 then s else s.take 1 ++ 46 :: s.drop 1) = A := ⟨_, rfl⟩
      rw [hA] at cdt
      have hAl : A.length ≤ 100 := by
        have := HM.out
        rw [← hA]
        split
        · omega
        · rw [List.length_append, List.length_cons, List.length_take, List.length_drop]; omega
      have HAX := hideIt hA
      clear hA
      go_wp2_with fail
      refine (cdt w1).mono ?_
      rintro r w2 ⟨rfl, hb2⟩
      have H2 := H1.trans (hb2.mono H1.size)
      go_wp2_with fail
      refine (csm w2 (HW.out.later H2).tt).mono ?_
      rintro r w3 ⟨rfl, hb3⟩
      have H3 := H2.trans (hb3.mono H2.size)
      have hBl := signOf_len (pt - 1) (by omega)
      obtain ⟨B, hB⟩ : ∃ B, signOf (pt - 1) = B := ⟨_, rfl⟩
      rw [hB] at hBl ⊢
      have HBX := hideIt hB
      have z1 := bs_size A
      have z2 := bs_size (101 :: B)
      have hcl : (101 :: B).length ≤ 101 := by rw [List.length_cons]; omega
      obtain ⟨a, ha⟩ : ∃ a, bs A = a := ⟨_, rfl⟩
      obtain ⟨c, hc⟩ : ∃ c, bs (101 :: B) = c := ⟨_, rfl⟩
      rw [ha] at z1 ⊢
      rw [hc] at z2 ⊢
      have HAS := hideIt ha
      have HCS := hideIt hc
      have y1 : a.size ≤ 100 := by omega
      have y2 : c.size ≤ 101 := by omega
      clear hB ha hc z1 z2 hcl hAl hBl hb2 hb3 cdt csm H2
      go_wp2_with fail
      go_ret
      refine ⟨?_, H3⟩
      show Ending.returned (.string (a ++ c)) = _
      have ht := HT4.out (by omega)
      rw [HAX.out] at ht
      rw [ht, ← HAS.out, ← HCS.out, bs_append]
      unfold expo
      rw [HBX.out]
  · by_cases a3 : 0 < pt
    · obtain ⟨j, rfl⟩ : ∃ j : Nat, pt = (j : Int) := ⟨pt.toNat, by omega⟩
      have a2 : (j : Int) ≤ 21 := by omega
      have hs2 : S.size ≤ 20 := by have := HSZ.out; omega
      have a6 : (0 : Int) ≤ (j : Int) ∧ (j : Int) ≤ S.size := by have := HSZ.out; omega
      have a7 : j ≤ S.size := by omega
      go_wp2_with fail
      go_quiet (fail)
      go_wp2_with fail
      go_ret
      refine ⟨?_, below_draws H1 _⟩
      show Ending.returned (.string (S.extract 0 j ++ bs [46] ++ S.extract j S.size)) = _
      have ht := HT2.out (by rw [HM.out]; omega) a3 a2
      rw [show ((j : Int)).toNat = j by omega] at ht
      rw [ht, ← HS.out, bs_extract, bs_extract, bs_append, bs_append, bs_size, List.take_length]
      simp
    · by_cases a4 : -6 < pt
      · obtain ⟨z, rfl⟩ : ∃ z : Nat, pt = -(z : Int) := ⟨(-pt).toNat, by omega⟩
        have a5 : -(z : Int) ≤ 0 := by omega
        have g1 : IntKind.i64.wrap (- -(z : Int)) = (z : Int) := by rw [Int.neg_neg]; exact IntWalk.i64_in _ (by omega)
        have cz := fun w => repeat_any z w (by omega)
        have hzs := bs_size (List.replicate z 48)
        rw [List.length_replicate] at hzs
        have hzb : z ≤ 21 := by omega
        go_wp2_with fail
        refine (cz w1).mono ?_
        rintro r w2 ⟨rfl, hb2⟩
        have H2 := H1.trans (hb2.mono H1.size)
        clear cz hb2
        obtain ⟨Z, hZ⟩ : ∃ Z, bs (List.replicate z 48) = Z := ⟨_, rfl⟩
        rw [hZ] at hzs ⊢
        have HZS := hideIt hZ
        have hz2 : Z.size ≤ 21 := by omega
        have hs2 : S.size ≤ 20 := by have := HSZ.out; omega
        clear hZ hzs
        go_wp2_with fail
        go_ret
        refine ⟨?_, H2⟩
        show Ending.returned (.string (bs [48, 46] ++ Z ++ S)) = _
        have ht := HT3.out a4 a5
        rw [show (- -(z : Int)).toNat = z by omega] at ht
        rw [ht, ← HS.out, ← HZS.out, bs_append, bs_append]
        simp
      · have a5 : pt ≤ 0 := by omega
        have g2 : IntKind.i64.wrap (pt - 1) = pt - 1 := IntWalk.i64_in _ (by omega)
        have cdt := fun w => dot_any s (by have := HM.out; omega) (by have := HM.out; omega) w
        have csm := fun w hT => expo_any (pt - 1) (by omega) (by omega) w hT
        rw [HS.out] at cdt
        obtain ⟨A, hA⟩ : ∃ A, (if s.length = 1 then s else s.take 1 ++ 46 :: s.drop 1) = A := ⟨_, rfl⟩
        rw [hA] at cdt
        have hAl : A.length ≤ 100 := by
          have := HM.out
          rw [← hA]
          split
          · omega
          · rw [List.length_append, List.length_cons, List.length_take, List.length_drop]; omega
        have HAX := hideIt hA
        clear hA
        go_wp2_with fail
        refine (cdt w1).mono ?_
        rintro r w2 ⟨rfl, hb2⟩
        have H2 := H1.trans (hb2.mono H1.size)
        go_wp2_with fail
        refine (csm w2 (HW.out.later H2).tt).mono ?_
        rintro r w3 ⟨rfl, hb3⟩
        have H3 := H2.trans (hb3.mono H2.size)
        have hBl := signOf_len (pt - 1) (by omega)
        obtain ⟨B, hB⟩ : ∃ B, signOf (pt - 1) = B := ⟨_, rfl⟩
        rw [hB] at hBl ⊢
        have HBX := hideIt hB
        have z1 := bs_size A
        have z2 := bs_size (101 :: B)
        have hcl : (101 :: B).length ≤ 101 := by rw [List.length_cons]; omega
        obtain ⟨a, ha⟩ : ∃ a, bs A = a := ⟨_, rfl⟩
        obtain ⟨c, hc⟩ : ∃ c, bs (101 :: B) = c := ⟨_, rfl⟩
        rw [ha] at z1 ⊢
        rw [hc] at z2 ⊢
        have HAS := hideIt ha
        have HCS := hideIt hc
        have y1 : a.size ≤ 100 := by omega
        have y2 : c.size ≤ 101 := by omega
        clear hB ha hc z1 z2 hcl hAl hBl hb2 hb3 cdt csm H2
        go_wp2_with fail
        go_ret
        refine ⟨?_, H3⟩
        show Ending.returned (.string (a ++ c)) = _
        have ht := HT4.out (by omega)
        rw [HAX.out] at ht
        rw [ht, ← HAS.out, ← HCS.out, bs_append]
        unfold expo
        rw [HBX.out]

set_option maxRecDepth 100000 in
set_option maxHeartbeats 4000000 in
theorem text_neg (n : Nat) (e : Int) (h : Parts n e) (s : List UInt8) (pt : Int) (hsh : Shown n e s pt) (w : World) (hw : Laid w) :
    Calls Tryz.prog 5 #[.float .f64 (9223372036854775808 + wordOf n e)] w fun r w' => r = .returned (.string (bs (45 :: posText s pt))) ∧ Below w.heap.size w w' := by
  have T := tests_neg h
  have co := odd_any T (fun h => by cases h)
  have t5 := T.t5
  have hb9 := word_lt h
  have hneg : Op.negFloat .f64 (9223372036854775808 + wordOf n e) = wordOf n e := by rw [negf, xor63' _ (by omega)]
  have cp := text_pos n e h s pt hsh w hw
  have hl := posText_len s pt (fewC h hsh)
  obtain ⟨x, hx⟩ : ∃ x, 9223372036854775808 + wordOf n e = x := ⟨_, rfl⟩
  obtain ⟨b, hb⟩ : ∃ b, wordOf n e = b := ⟨_, rfl⟩
  rw [hx] at co t5 hneg ⊢
  rw [hb] at cp hneg
  have hun : ∀ w, (Op.unary .neg (.float .f64 x)).run Tryz.prog w = .ok (.float .f64 b) w := fun w => by rw [← hneg]; rfl
  have hz := bs_size (posText s pt)
  obtain ⟨S, hS⟩ : ∃ S, bs (posText s pt) = S := ⟨_, rfl⟩
  rw [hS] at cp hz
  have hz2 : S.size ≤ 1000 := by omega
  have HS := hideIt hS
  clear T hb9 h hsh hx hb hl hz hS hneg hw
  go_enter Tryz.func5, Tryz.ntmps5
  go_wp2_with fail
  refine (co w).mono ?_
  rintro r w1 ⟨rfl, rfl⟩
  clear co
  go_wp2_with fail
  refine cp.mono ?_
  rintro r w1 ⟨rfl, H1⟩
  go_wp2_with fail
  go_ret
  refine ⟨?_, H1⟩
  show Ending.returned (.string (bs [45] ++ S)) = _
  rw [← HS.out, bs_append]
  rfl

set_option maxRecDepth 100000 in
set_option maxHeartbeats 4000000 in
theorem text_odd {b : Nat} {nan zero pinf ninf neg : Bool} (T : Tests b nan zero pinf ninf neg) (hx : zero = true → pinf = false ∧ ninf = false) (h : (nan || zero || pinf || ninf) = true) (w : World) :
    Calls Tryz.prog 5 #[.float .f64 b] w fun r w' => r = .returned (.string (bs (oddS nan zero pinf ninf))) ∧ Below w.heap.size w w' := by
  have co := odd_any T hx
  rw [h] at co
  obtain ⟨S, hS⟩ : ∃ S, bs (oddS nan zero pinf ninf) = S := ⟨_, rfl⟩
  rw [hS] at co ⊢
  clear T h hS hx
  go_enter Tryz.func5, Tryz.ntmps5
  go_wp2_with fail
  refine (co w).mono ?_
  rintro r w1 ⟨rfl, rfl⟩
  clear co
  go_wp2_with fail
  go_ret
  exact ⟨rfl, Below.refl _ _⟩
end Go.Proofs.YtdijkobiffhgcaaGreatDoor.Nu
