/-
  math's functions on floats: bits, Trunc, Floor, Log10, Abs, IsInf, IsNaN, Inf, Parts. Conditions: as each says.
-/
import Derived.Test.YtdijkobiffhgcaaGreatDoorMem
import Derived.Test.YtdijkobiffhgcaaGreatDoorFloat
import Derived.Laws.Externs
namespace Go.Proofs.YtdijkobiffhgcaaGreatDoor.Nu
open Go.RowKit Go.Lib

theorem run_bits (b : Nat) (w : World) : (callFunc 56 #[.float .f64 b]).run Tryz.prog w = .ok (.value (.int .u64 (b : Int))) w := by kernel_rfl
theorem run_from (b : Nat) (w : World) : (callFunc 4 #[.int .u64 (b : Int)]).run Tryz.prog w = .ok (.value (.float .f64 b)) w := by kernel_rfl
theorem run_bits2 (b : Nat) (w : World) : (callFunc 87 #[.float .f64 b]).run Tryz.prog w = .ok (.value (.int .u64 (b : Int))) w := by kernel_rfl

theorem run_integral {P : Program} (name : String) (way : Ieee.Toward) (b m : Nat) (s : Bool) (i : Int) (h : FloatKind.f64.decode b = .number s m i) (w : World) :
    (Go.Extern.MathFloor.toIntegral name way #[.float .f64 b]).run P w = .ok (.float .f64 (FloatKind.f64.encode ((Ieee.Datum.number s m i).integral way))) w := by
  show Sem.run P (Go.Extern.MathFloor.toIntegral.match_1 (fun _ => Sem Value) (FloatKind.f64.decode b) _ _) w = _
  rw [h]
  rfl
theorem run_trunc (b m : Nat) (s : Bool) (i : Int) (h : Ieee.double.read b = .number s m i) (w : World) : (callFunc 32 #[.float .f64 b]).run Tryz.prog w = .ok (.value (.float .f64 (Ieee.double.write ((Ieee.Datum.number s m i).integral .zero)))) w := by
  rw [run_callFunc_extern (e := Extern.MathFloor.toIntegral "math.archTrunc" .zero) Tryz.func32 (by kernel_rfl) (by kernel_rfl) (by kernel_rfl) (by kernel_rfl), run_integral "math.archTrunc" .zero b m s i h]
  rfl
theorem run_floor (b m : Nat) (s : Bool) (i : Int) (h : Ieee.double.read b = .number s m i) (w : World) : (callFunc 79 #[.float .f64 b]).run Tryz.prog w = .ok (.value (.float .f64 (Ieee.double.write ((Ieee.Datum.number s m i).integral .down)))) w := by
  rw [run_callFunc_extern (e := Extern.MathFloor.toIntegral "math.archFloor" .down) Tryz.func79 (by kernel_rfl) (by kernel_rfl) (by kernel_rfl) (by kernel_rfl), run_integral "math.archFloor" .down b m s i h]
  rfl

theorem run_log (b : Nat) (h0 : 0 < b) (h1 : b < 9218868437227405312) : ∃ r, Mg r 16 ∧ ∀ w, (callFunc 141 #[.float .f64 b]).run Tryz.prog w = .ok (.value (.float .f64 r)) w := by
  obtain ⟨r, hr, h⟩ := archLog_run b h0 h1
  refine ⟨r, hr, fun w => ?_⟩
  rw [run_callFunc_extern (e := Extern.MathLog.archLog) Tryz.func141 (by kernel_rfl) (by kernel_rfl) (by kernel_rfl) (by kernel_rfl), h]
  rfl

set_option maxRecDepth 100000 in
set_option maxHeartbeats 1000000 in
theorem parts_any (n : Nat) (e : Int) (h : Parts n e) (w : World) : Calls Tryz.prog 60 #[.float .f64 (wordOf n e)] w fun r w' => r = .returned (.tuple #[.int .u64 (n : Nat), .int .i64 e]) ∧ w = w' := by
  have hl := word_lt h
  obtain ⟨b, hb⟩ : ∃ b, wordOf n e = b := ⟨_, rfl⟩
  obtain ⟨x1, x2, x3, x4, x5⟩ := h
  have H : Hid (b / 4503599627370496 % 2048 = (if n < 4503599627370496 then 0 else (e + 1075).toNat) ∧ b % 4503599627370496 = (if n < 4503599627370496 then n else n - 4503599627370496)) := hideIt (by
    rw [← hb]
    by_cases hs : n < 4503599627370496
    · obtain rfl : e = -1074 := by omega
      have e1 : wordOf n (-1074) = n := by unfold wordOf; simp
      rw [if_pos hs, if_pos hs, e1]; omega
    · rw [if_neg hs, if_neg hs]; unfold wordOf at hl ⊢; omega)
  rw [hb] at hl ⊢
  have hB := run_bits b
  obtain ⟨q, hq⟩ : ∃ q, b / 4503599627370496 = q := ⟨_, rfl⟩
  obtain ⟨E, hE⟩ : ∃ E, q % 2048 = E := ⟨_, rfl⟩
  obtain ⟨f, hf⟩ : ∃ f, b % 4503599627370496 = f := ⟨_, rfl⟩
  have h1 : IntKind.u64.wrap ((b : Int) / 4503599627370496) = (q : Int) := by
    rw [show ((b : Int) / 4503599627370496) = (q : Int) by omega]
    exact Int.emod_eq_of_lt (by omega) (by show (q : Int) < 18446744073709551616; omega)
  have h2 : (q : Int) % 2048 = (E : Int) := by omega
  have h3 : (b : Int) % 4503599627370496 = (f : Int) := by omega
  have h4 : IntKind.i64.wrap (E : Int) = (E : Int) := IntWalk.i64_in _ (by omega)
  rw [hq, hE, hf] at H
  have HX := hideIt x5
  have HL := hideIt x2
  clear hb hl hq hE hf x5 x2 x1
  by_cases hs : n < 4503599627370496
  · have H1 := H.out
    rw [if_pos hs, if_pos hs] at H1
    obtain ⟨rfl, rfl⟩ := H1
    have he : e = -1074 := by have := HX.out; omega
    subst he
    clear hs H HX HL
    go_enter Tryz.func60, Tryz.ntmps60
    go_wp2
    go_ret2
    refine ⟨?_, rfl⟩
    show Ending.returned (.tuple #[.int .u64 ((b : Int) % 4503599627370496), .int .i64 (-1074)]) = _
    rw [h3]
  · have H1 := H.out
    rw [if_neg hs, if_neg hs] at H1
    obtain ⟨g1, g2⟩ := H1
    have h5 : IntKind.i64.wrap ((E : Int) - 1075) = e := by rw [IntWalk.i64_in _ (by omega)]; omega
    have h6 : IntKind.u64.wrap ((f : Int) + 4503599627370496) = (n : Int) := by
      rw [show (f : Int) + 4503599627370496 = (n : Int) by omega]
      exact Int.emod_eq_of_lt (by omega) (by show (n : Int) < 18446744073709551616; have := HL.out; omega)
    have h8 : IntKind.u64.wrap ((b : Int) % 4503599627370496 + 4503599627370496) = (n : Int) := by rw [h3]; exact h6
    have h9 : IntKind.i64.wrap ((q : Int) % 2048 - 1075) = e := by rw [h2]; exact h5
    have h7 : ((E : Int) == 0) = false := by rw [beq_eq_false_iff_ne]; omega
    clear hs H HX HL g1 g2
    go_enter Tryz.func60, Tryz.ntmps60
    go_wp2
    go_ret2
    exact ⟨rfl, rfl⟩
end Go.Proofs.YtdijkobiffhgcaaGreatDoor.Nu
