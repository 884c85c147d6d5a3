/-
  The program's small helpers: odd, point, exponent, Repeat. Conditions: as each says.
-/
import Derived.Test.YtdijkobiffhgcaaGreatDoorOddW
import Derived.Test.YtdijkobiffhgcaaGreatDoorShelf
import Derived.Test.YtdijkobiffhgcaaGreatDoorFfW
import Derived.Lib.AppendIntMem
namespace Go.Proofs.YtdijkobiffhgcaaGreatDoor.Nu
open Go.RowKit Go.Lib

/-- sizes of what is shown. -/
structure FewC (s : List UInt8) (pt : Int) : Prop where
  pos : 0 < s.length
  le : s.length ≤ 20
  lo : -400 ≤ pt
  hi : pt ≤ 400

theorem dec_small (d k : Nat) (h : d < 10 ^ k) (hd : d ≠ 0) : (dec d).length ≤ k := by
  have a := decR_ge d hd
  rw [← dec_length] at a
  rcases Nat.lt_or_ge k (dec d).length with g | g
  · have : 10 ^ k ≤ 10 ^ ((dec d).length - 1) := Nat.pow_le_pow_right (by omega) (by omega)
    omega
  · exact g

theorem fewC {n : Nat} {e : Int} (h : Parts n e) {s : List UInt8} {pt : Int} (hsh : Shown n e s pt) : FewC s pt := by
  obtain ⟨j, d', h1, h2, rfl, rfl⟩ := hsh.ex
  obtain ⟨q1, q2, q3⟩ := short_lt n e h
  have hd : d' ≠ 0 := by intro h0; rw [h0] at h2; omega
  have h3 := dec_small (d' * 10 ^ j) 19 (by rw [← h1]; omega) (by
    have := Nat.mul_pos (Nat.pos_of_ne_zero hd) (Nat.pow_pos (n := j) (show 0 < 10 by omega)); omega)
  rw [dec_len_pow d' j hd] at h3
  have h4 := dec_pos d' hd
  exact ⟨h4, by omega, by omega, by omega⟩

theorem decDigits_dec : ∀ (k u : Nat), u ≤ k → u ≠ 0 → decDigits u = dec u := by
  intro k
  induction k with
  | zero => intro u h h0; omega
  | succ k ih =>
    intro u h h0
    unfold dec
    rw [decR_step u h0, decDigits]
    by_cases h10 : u < 10
    · rw [dif_pos h10, show u / 10 = 0 by omega, show decR 0 = [] by unfold decR; rfl, show u % 10 = u by omega]
      rfl
    · rw [dif_neg h10, ih (u / 10) (by omega) (by omega)]
      unfold dec
      simp

theorem repeat_one : ∀ (z : Nat), Lib.repeatL [48] z = List.replicate z 48
  | 0 => rfl
  | z + 1 => by
    show [48] ++ Lib.repeatL [48] z = _
    rw [repeat_one z]; rfl

theorem repeat_any (z : Nat) (w : World) (h : z ≤ 1000) : Calls Tryz.prog 9 #[.string (bs [48]), .int .i64 (z : Int)] w fun r w' => r = .returned (.string (bs (List.replicate z 48))) ∧ Below w.heap.size w w' := by
  have c := Tryz.strings_Repeat (bs [48]) z w (by omega) (by rw [show (bs [48]).size = 1 from rfl, Nat.one_mul]; omega)
  have e : (bs [48]).data.toList = [48] := rfl
  rw [e, repeat_one] at c
  exact c

set_option maxRecDepth 100000 in
set_option maxHeartbeats 1000000 in
theorem point_one (x : UInt8) (w : World) : Calls Tryz.prog 10 #[.string (bs [x])] w fun r w' => r = .returned (.string (bs [x])) ∧ Below w.heap.size w w' := by
  obtain ⟨S, hS⟩ : ∃ S, bs [x] = S := ⟨_, rfl⟩
  have hsz : ((S.size : Int) == 1) = true := by rw [← hS, bs_size]; rfl
  rw [hS]
  clear hS
  go_enter Tryz.func10, Tryz.ntmps10
  go_wp2_with fail
  go_ret
  exact ⟨rfl, Below.refl _ _⟩

set_option maxRecDepth 100000 in
set_option maxHeartbeats 1000000 in
theorem point_more (l : List UInt8) (h1 : 1 < l.length) (h2 : l.length ≤ 1000) (w : World) : Calls Tryz.prog 10 #[.string (bs l)] w fun r w' => r = .returned (.string (bs (l.take 1 ++ 46 :: l.drop 1))) ∧ Below w.heap.size w w' := by
  obtain ⟨S, hS⟩ : ∃ S, bs l = S := ⟨_, rfl⟩
  have hz := bs_size l
  have hsz : ((S.size : Int) == 1) = false := by rw [← hS, beq_eq_false_iff_ne, hz]; omega
  have hs2 : 1 < S.size ∧ S.size ≤ 1000 := by rw [← hS, hz]; omega
  have HS := hideIt hS
  rw [hS]
  clear hS h1 h2 hz
  go_enter Tryz.func10, Tryz.ntmps10
  go_wp2_with fail
  go_quiet (fail)
  go_wp2_with fail
  go_ret
  refine ⟨?_, below_draws (Below.refl _ _) _⟩
  show Ending.returned (.string (S.extract 0 1 ++ bs [46] ++ S.extract 1 S.size)) = _
  have e : S.extract 0 1 ++ bs [46] ++ S.extract 1 S.size = bs (l.take 1 ++ 46 :: l.drop 1) := by
    rw [← HS.out, bs_extract, bs_extract, bs_append, bs_append, bs_size, List.take_length]
    simp
  rw [e]

theorem dot_any (l : List UInt8) (h1 : 0 < l.length) (h2 : l.length ≤ 1000) (w : World) : Calls Tryz.prog 10 #[.string (bs l)] w fun r w' => r = .returned (.string (bs (if l.length = 1 then l else l.take 1 ++ 46 :: l.drop 1))) ∧ Below w.heap.size w w' := by
  by_cases h : l.length = 1
  · rw [if_pos h]
    match l, h with
    | [x], _ => exact point_one x w
  · rw [if_neg h]
    exact point_more l (by omega) h2 w

theorem itoa_any (m : Nat) (h0 : 0 < m) (h : m ≤ 1000) (w : World) (hTT : Lib.TabIs Tryz.prog w "internal/strconv.uint64pow10" .u64 Lib.pow10Tab) :
    Calls Tryz.prog 31 #[.int .i64 (m : Int)] w fun r w' => r = .returned (.string (bs (dec m))) ∧ Below w.heap.size w w' := by
  have c := Tryz.strconv_Itoa (m : Int) (by omega) (by omega) w hTT
  have e : Lib.itoa (m : Int) = dec m := by
    unfold Lib.itoa
    rw [if_neg (by omega), show ((m : Int)).toNat = m by omega]
    exact decDigits_dec m m (Nat.le_refl _) (by omega)
  rw [e] at c
  refine c.mono ?_
  rintro r w1 ⟨h1, k, os, rfl⟩
  exact ⟨h1, Lib.below_grow _ w (Nat.le_refl _) k os⟩

set_option maxRecDepth 100000 in
set_option maxHeartbeats 1000000 in
theorem expo_pos (m : Nat) (h0 : 0 < m) (h : m ≤ 1000) (w : World) (hTT : Lib.TabIs Tryz.prog w "internal/strconv.uint64pow10" .u64 Lib.pow10Tab) :
    Calls Tryz.prog 11 #[.int .i64 (m : Int)] w fun r w' => r = .returned (.string (bs (101 :: 43 :: dec m))) ∧ Below w.heap.size w w' := by
  have c := itoa_any m h0 h w hTT
  have hl := dec_small m 4 (by omega) (by omega)
  have hz := bs_size (dec m)
  obtain ⟨S, hS⟩ : ∃ S, bs (dec m) = S := ⟨_, rfl⟩
  rw [hS] at c hz
  have hz2 : S.size ≤ 4 := by omega
  have HS := hideIt hS
  clear hS hz hl hTT
  go_enter Tryz.func11, Tryz.ntmps11
  go_wp2_with fail
  refine c.mono ?_
  rintro r w1 ⟨rfl, hb⟩
  go_wp2_with fail
  go_ret
  refine ⟨?_, hb⟩
  show Ending.returned (.string (bs [101, 43] ++ S)) = _
  rw [← HS.out, bs_append]
  rfl

set_option maxRecDepth 100000 in
set_option maxHeartbeats 1000000 in
theorem expo_neg (m : Nat) (h0 : 0 < m) (h : m ≤ 1000) (w : World) (hTT : Lib.TabIs Tryz.prog w "internal/strconv.uint64pow10" .u64 Lib.pow10Tab) :
    Calls Tryz.prog 11 #[.int .i64 (-(m : Int))] w fun r w' => r = .returned (.string (bs (101 :: 45 :: dec m))) ∧ Below w.heap.size w w' := by
  have c := itoa_any m h0 h w hTT
  have hl := dec_small m 4 (by omega) (by omega)
  have hz := bs_size (dec m)
  obtain ⟨S, hS⟩ : ∃ S, bs (dec m) = S := ⟨_, rfl⟩
  rw [hS] at c hz
  have hz2 : S.size ≤ 4 := by omega
  have g1 : IntKind.i64.wrap (- -(m : Int)) = (m : Int) := by rw [Int.neg_neg]; exact IntWalk.i64_in _ (by omega)
  have g2 : -(m : Int) < 0 := by omega
  have HS := hideIt hS
  clear hS hz hl hTT
  go_enter Tryz.func11, Tryz.ntmps11
  go_wp2_with fail
  refine c.mono ?_
  rintro r w1 ⟨rfl, hb⟩
  go_wp2_with fail
  go_ret
  refine ⟨?_, hb⟩
  show Ending.returned (.string (bs [101, 45] ++ S)) = _
  rw [← HS.out, bs_append]
  rfl

theorem expo_any (z : Int) (h0 : z ≠ 0) (h : -1000 ≤ z ∧ z ≤ 1000) (w : World) (hTT : Lib.TabIs Tryz.prog w "internal/strconv.uint64pow10" .u64 Lib.pow10Tab) :
    Calls Tryz.prog 11 #[.int .i64 z] w fun r w' => r = .returned (.string (bs (101 :: signOf z))) ∧ Below w.heap.size w w' := by
  unfold signOf
  by_cases g : z < 0
  · obtain ⟨m, hm⟩ : ∃ m : Nat, z = -(m : Int) := ⟨z.natAbs, by omega⟩
    subst hm
    rw [if_pos g, show (-(m : Int)).natAbs = m by omega]
    exact expo_neg m (by omega) (by omega) w hTT
  · obtain ⟨m, hm⟩ : ∃ m : Nat, z = (m : Int) := ⟨z.natAbs, by omega⟩
    subst hm
    rw [if_neg g, show ((m : Int)).natAbs = m by omega]
    exact expo_pos m (by omega) (by omega) w hTT

set_option maxRecDepth 100000 in
set_option maxHeartbeats 1000000 in
theorem inf_pos {b : Nat} {nan zero pinf ninf neg : Bool} (T : Tests b nan zero pinf ninf neg) (w : World) : Calls Tryz.prog 20 #[.float .f64 b, .int .i64 1] w fun r w' => r = .returned (.bool pinf) ∧ w = w' := by
  have t3 := T.t3
  clear T
  go_enter Tryz.func20, Tryz.ntmps20
  go_wp2_with fail
  go_ret
  exact ⟨rfl, rfl⟩

set_option maxRecDepth 100000 in
set_option maxHeartbeats 1000000 in
theorem inf_neg {b : Nat} {nan zero pinf ninf neg : Bool} (T : Tests b nan zero pinf ninf neg) (w : World) : Calls Tryz.prog 20 #[.float .f64 b, .int .i64 (-1)] w fun r w' => r = .returned (.bool ninf) ∧ w = w' := by
  have t6 := T.t6
  obtain ⟨c, hc⟩ : ∃ c, Op.negFloat .f64 b = c := ⟨_, rfl⟩
  rw [hc] at t6
  have hun : ∀ w, (Op.unary .neg (.float .f64 b)).run Tryz.prog w = .ok (.float .f64 c) w := fun w => by rw [← hc]; rfl
  clear T hc
  go_enter Tryz.func20, Tryz.ntmps20
  go_wp2_with fail
  go_ret
  exact ⟨rfl, rfl⟩

set_option maxRecDepth 100000 in
set_option maxHeartbeats 4000000 in
theorem odd_any {b : Nat} {nan zero pinf ninf neg : Bool} (T : Tests b nan zero pinf ninf neg) (hx : zero = true → pinf = false ∧ ninf = false) (w : World) :
    Calls Tryz.prog 7 #[.float .f64 b] w fun r w' => r = .returned (.tuple #[.string (bs (oddS nan zero pinf ninf)), .bool (nan || zero || pinf || ninf)]) ∧ w = w' := by
  have c1 := inf_pos T
  have c2 := inf_neg T
  obtain ⟨t1, t2, t3, t4, t5, t6⟩ := T
  clear t3 t4 t5 t6
  cases nan
  · cases pinf
    · cases ninf
      · cases zero
        all_goals
          clear hx
          go_enter Tryz.func7, Tryz.ntmps7
          go_wp2_with fail
          refine (c1 w).mono ?_
          rintro r w1 ⟨rfl, rfl⟩
          go_wp2_with fail
          refine (c2 w).mono ?_
          rintro r w1 ⟨rfl, rfl⟩
          go_wp2_with fail
          go_ret2
          exact ⟨rfl, rfl⟩
      · cases zero
        · clear hx t2
          go_enter Tryz.func7, Tryz.ntmps7
          go_wp2_with fail
          refine (c1 w).mono ?_
          rintro r w1 ⟨rfl, rfl⟩
          go_wp2_with fail
          refine (c2 w).mono ?_
          rintro r w1 ⟨rfl, rfl⟩
          go_wp2_with fail
          go_ret2
          exact ⟨rfl, rfl⟩
        · exact absurd (hx rfl).2 (by decide)
    · cases zero
      · clear hx t2 c2
        go_enter Tryz.func7, Tryz.ntmps7
        go_wp2_with fail
        refine (c1 w).mono ?_
        rintro r w1 ⟨rfl, rfl⟩
        go_wp2_with fail
        go_ret2
        exact ⟨rfl, rfl⟩
      · exact absurd (hx rfl).1 (by decide)
  · clear t2 c1 c2 hx
    go_enter Tryz.func7, Tryz.ntmps7
    go_wp2_with fail
    go_ret2
    exact ⟨rfl, rfl⟩
end Go.Proofs.YtdijkobiffhgcaaGreatDoor.Nu
