/-
  The reference's NumText at every number. Conditions: none.
-/
import Derived.Test.YtdijkobiffhgcaaGreatDoorNumW
import Derived.Test.YtdijkobiffhgcaaGreatDoorSidW
namespace Go.Proofs.YtdijkobiffhgcaaGreatDoor.Nu
open Go.RowKit Go.Lib

theorem posText_len (s : List UInt8) (pt : Int) (h : FewC s pt) : (posText s pt).length ≤ 1000 := by
  obtain ⟨h1, h2, h3, h4⟩ := h
  by_cases a : (s.length : Int) ≤ pt ∧ pt ≤ 21
  · rw [text1 s pt a.1 a.2, List.length_append, List.length_replicate]; omega
  · by_cases b : 0 < pt ∧ pt ≤ 21
    · rw [text2 s pt (by omega) b.1 b.2, List.length_append, List.length_cons, List.length_take, List.length_drop]; omega
    · by_cases c : -6 < pt ∧ pt ≤ 0
      · rw [text3 s pt h1 c.1 c.2, List.length_append, List.length_cons, List.length_cons, List.length_replicate]; omega
      · have := signOf_len (pt - 1) (by omega)
        rw [text4 s pt h1 (by omega), List.length_append]
        unfold expo
        rw [List.length_cons]
        split
        · omega
        · rw [List.length_append, List.length_cons, List.length_take, List.length_drop]; omega

set_option maxRecDepth 100000 in
set_option maxHeartbeats 4000000 in
theorem numtext_neg (n : Nat) (e : Int) (h : Parts n e) (s : List UInt8) (pt : Int) (hsh : Shown n e s pt) (hfb : FewC s pt) (w : World) :
    Calls Tryz.prog 6 #[.float .f64 (9223372036854775808 + wordOf n e)] w fun r w' => r = .returned (.string (bs (45 :: posText s pt))) ∧ Below w.heap.size w w' := by
  have T := tests_neg h
  have co := odd_ref T
  have t5 := T.t5
  have hb9 := word_lt h
  have hneg : Op.negFloat .f64 (9223372036854775808 + wordOf n e) = wordOf n e := by rw [negf, xor63' _ (by omega)]
  have cp := fun w => numtext_pos n e h s pt hsh w
  obtain ⟨x, hx⟩ : ∃ x, 9223372036854775808 + wordOf n e = x := ⟨_, rfl⟩
  obtain ⟨b, hb⟩ : ∃ b, wordOf n e = b := ⟨_, rfl⟩
  rw [hx] at co t5 hneg ⊢
  rw [hb] at cp hneg
  have hun : ∀ w, (Op.unary .neg (.float .f64 x)).run Tryz.prog w = .ok (.float .f64 b) w := fun w => by rw [← hneg]; rfl
  have hl := posText_len s pt hfb
  have hz := bs_size (posText s pt)
  obtain ⟨S, hS⟩ : ∃ S, bs (posText s pt) = S := ⟨_, rfl⟩
  rw [hS] at cp hz
  have hz2 : S.size ≤ 1000 := by omega
  have HS := hideIt hS
  clear T hb9 h hsh hfb hx hb hl hz hS hneg
  go_enter Tryz.func6, Tryz.ntmps6
  go_wp2_with fail
  refine (co w).mono ?_
  rintro r w1 ⟨rfl, rfl⟩
  clear co
  go_wp2_with fail
  refine (cp w).mono ?_
  rintro r w1 ⟨rfl, H1⟩
  go_wp2_with fail
  go_ret
  refine ⟨?_, H1⟩
  show Ending.returned (.string (bs [45] ++ S)) = _
  rw [← HS.out, bs_append]
  rfl

set_option maxRecDepth 100000 in
set_option maxHeartbeats 4000000 in
theorem numtext_odd {b : Nat} {nan zero pinf ninf neg : Bool} (T : Tests b nan zero pinf ninf neg) (h : (nan || zero || pinf || ninf) = true) (w : World) :
    Calls Tryz.prog 6 #[.float .f64 b] w fun r w' => r = .returned (.string (bs (oddS nan zero pinf ninf))) ∧ Below w.heap.size w w' := by
  have co := odd_ref T
  rw [h] at co
  obtain ⟨S, hS⟩ : ∃ S, bs (oddS nan zero pinf ninf) = S := ⟨_, rfl⟩
  rw [hS] at co ⊢
  clear T h hS
  go_enter Tryz.func6, Tryz.ntmps6
  go_wp2_with fail
  refine (co w).mono ?_
  rintro r w1 ⟨rfl, rfl⟩
  clear co
  go_wp2_with fail
  go_ret
  exact ⟨rfl, Below.refl _ _⟩
end Go.Proofs.YtdijkobiffhgcaaGreatDoor.Nu
