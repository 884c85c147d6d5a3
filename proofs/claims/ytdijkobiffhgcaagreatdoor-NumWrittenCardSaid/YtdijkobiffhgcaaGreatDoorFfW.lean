/-
  strconv.FormatFloat at 'e', -1, 64, of a number above 0. Conditions: the tables lie as told.
-/
import Derived.Test.YtdijkobiffhgcaaGreatDoorFtW
import Derived.Test.YtdijkobiffhgcaaGreatDoorStrW
namespace Go.Proofs.YtdijkobiffhgcaaGreatDoor.Nu
open Go.RowKit Go.Lib

theorem short_lt (n : Nat) (e : Int) (h : Parts n e) : (shortOf n e).1 < 1152921504606846976 ∧ -349 ≤ (shortOf n e).2 ∧ (shortOf n e).2 ≤ 347 := by
  obtain ⟨S, f⟩ := sh_facts n e h _ rfl
  obtain ⟨s0, s1, t1, t2, t3⟩ := norm_top n h.pos h.lt _ rfl
  obtain ⟨z0, z1, z2⟩ := row_lt _ f.p0 f.p1
  have hlo : yloOf n e ≤ yhiOf n := by have := h.pos; unfold yloOf yhiOf; split <;> omega
  have a := uscaleN_lt _ _ (row (pOf n e)).2 S (Nat.lt_of_le_of_lt (Nat.mul_le_mul_right _ hlo) f.top) z1 f.ge
  have b := uscaleN_lt _ _ (row (pOf n e)).2 S t1 z1 f.ge
  have c := uscaleN_lt _ _ (row (pOf n e)).2 S f.top z1 f.ge
  rw [f.lo] at a
  rw [f.mid] at b
  rw [f.hi] at c
  have p0 := f.p0
  have p1 := f.p1
  unfold shortOf shortD dminOf dmaxOf roundU
  split
  · dsimp only; omega
  · split
    · dsimp only; omega
    · dsimp only; omega

theorem make24 (w : World) : (Instr.makeSlice 53 (.int .i64 0) (.int .i64 (max 3 24))).run Tryz.prog w = .ok (.slice (some ⟨w.heap.size, 0, none⟩) 0 24) (w.alloc (.cells (Array.replicate 24 (.int .u8 0)) 5)) := by kernel_rfl

theorem row24 (w : World) : (w.alloc (.cells (Array.replicate 24 (.int .u8 0)) 5)).ownsRow w.heap.size 5 1 (.slice (some ⟨w.heap.size, 0, none⟩) 0 24) 0 (byteCells []) :=
  ⟨rfl, .inr ⟨w.heap.size, 24, Array.replicate 24 (.int .u8 0), rfl, Nat.le_refl _, by show (w.heap.push _)[w.heap.size]? = _; simp, by decide, by decide, by simp, rfl⟩⟩

set_option maxRecDepth 100000 in
set_option maxHeartbeats 4000000 in
theorem format_inner (n D d j0 L : Nat) (e pp : Int) (h : Parts n e) (w : World) (hD : (shortOf n e).1 = D) (hpp : -(shortOf n e).2 = pp) (hDd : D = d * 10 ^ j0) (hd : d % 10 ≠ 0) (hL : (dec d).length = L)
    (hPT : PTab w) (hTT : Lib.TabIs Tryz.prog w "internal/strconv.uint64pow10" .u64 Lib.pow10Tab) :
    Calls Tryz.prog 42 #[.float .f64 (wordOf n e), .int .u8 101, .int .i64 (-1), .int .i64 64] w fun r w' => r = .returned (.string (bs (eText (dec d) ((L : Int) + j0 + pp - 1)))) ∧ Below w.heap.size w w' := by
  obtain ⟨q1, q2, q3⟩ := short_lt n e h
  have cF := fun v w1 (hb : Below w.heap.size w w1) (ho : w1.ownsRow w.heap.size 5 1 v 0 (byteCells [])) =>
    ftoa_walk v w.heap.size n D d j0 L e pp h w1 hD hpp hDd hd (by omega) (by omega) (by omega) hL ho hb.size (Joins.tab_stays global8 hPT hb (Nat.le_refl _)) (Joins.tab_stays global7 hTT hb (Nat.le_refl _))
  obtain ⟨b, hb⟩ : ∃ b, wordOf n e = b := ⟨_, rfl⟩
  obtain ⟨l, hl⟩ : ∃ l, eText (dec d) ((L : Int) + j0 + pp - 1) = l := ⟨_, rfl⟩
  rw [hl]
  rw [hb]
  have hmk := make24
  have cFo := fun w1 => cF (.slice (some ⟨w.heap.size, 0, none⟩) 0 24) w1
  have hb1 : Below w.heap.size w (w.alloc (.cells (Array.replicate 24 (.int .u8 0)) 5)) := (Below.refl _ _).alloc (Nat.le_refl _) _
  have c1 := cFo _ hb1 (row24 w)
  rw [hl] at c1
  rw [hb] at c1
  clear h hD hpp hDd hd hL hPT hTT q1 q2 q3 hb hl cF cFo
  have kc : ∀ w2 v2, w2.ownsRow w.heap.size 5 1 v2 l.length (byteCells l) → (convert 53 9 v2).run Tryz.prog w2 = .ok (.string (bs l)) w2 := fun w2 v2 ho => run_convert_row w2 53 9 5 Tryz.underlying53 Tryz.underlying5 Tryz.underlying9 ho
  go_enter Tryz.func42, Tryz.ntmps42
  go_wp2_with fail
  refine c1.mono ?_
  rintro r w2 ⟨v2, rfl, ho, hb2⟩
  have k2 := kc w2 v2 ho
  go_wp2_with fail
  go_ret
  exact ⟨rfl, hb1.trans hb2⟩

theorem format_any (n D d j0 L : Nat) (e pp : Int) (h : Parts n e) (w : World) (hD : (shortOf n e).1 = D) (hpp : -(shortOf n e).2 = pp) (hDd : D = d * 10 ^ j0) (hd : d % 10 ≠ 0) (hL : (dec d).length = L)
    (hPT : PTab w) (hTT : Lib.TabIs Tryz.prog w "internal/strconv.uint64pow10" .u64 Lib.pow10Tab) :
    Calls Tryz.prog 21 #[.float .f64 (wordOf n e), .int .u8 101, .int .i64 (-1), .int .i64 64] w fun r w' => r = .returned (.string (bs (eText (dec d) ((L : Int) + j0 + pp - 1)))) ∧ Below w.heap.size w w' := by
  have c := format_inner n D d j0 L e pp h w hD hpp hDd hd hL hPT hTT
  obtain ⟨b, hb⟩ : ∃ b, wordOf n e = b := ⟨_, rfl⟩
  obtain ⟨l, hl⟩ : ∃ l, bs (eText (dec d) ((L : Int) + j0 + pp - 1)) = l := ⟨_, rfl⟩
  rw [hl] at c ⊢
  rw [hb] at c ⊢
  clear h hD hpp hDd hd hL hPT hTT hb hl
  go_enter Tryz.func21, Tryz.ntmps21
  go_wp2_with fail
  refine c.mono ?_
  rintro r w2 ⟨rfl, hb2⟩
  go_wp2_with fail
  go_ret
  exact ⟨rfl, hb2⟩
end Go.Proofs.YtdijkobiffhgcaaGreatDoor.Nu
