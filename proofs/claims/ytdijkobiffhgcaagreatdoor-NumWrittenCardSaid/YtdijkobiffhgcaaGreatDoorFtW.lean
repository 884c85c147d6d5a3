/-
  strconv's ftoa64 at 'e', -1, of a number above 0. Conditions: as each says.
-/
import Derived.Test.YtdijkobiffhgcaaGreatDoorEfgW
import Derived.Test.YtdijkobiffhgcaaGreatDoorSetW
import Derived.Test.YtdijkobiffhgcaaGreatDoorShW
import Derived.Deep.RegionWith
import Derived.BigQuiet
import Derived.Deep.QuietTactic
namespace Go.Proofs.YtdijkobiffhgcaaGreatDoor.Nu
open Go.RowKit Go.Lib

theorem u64_shr63 (b : Nat) (h : b < 9223372036854775808) : (b : Int) / 9223372036854775808 = 0 := by omega
theorem u64_mant (b : Nat) (h : b < 18446744073709551616) : bits .and .u64 (b : Int) 4503599627370495 = ((b % 4503599627370496 : Nat) : Int) := by
  have := u64_and_nat b 4503599627370495 h (by omega)
  rw [show (4503599627370495 : Int) = ((4503599627370495 : Nat) : Int) from rfl, this]
  congr 1
  exact Nat.and_two_pow_sub_one_eq_mod b 52
theorem u64_full (f : Nat) (h : f < 4503599627370496) : bits .or .u64 (f : Int) 4503599627370496 = ((4503599627370496 + f : Nat) : Int) := by
  have := u64_or_nat f 4503599627370496 (by omega) (by omega)
  rw [show (4503599627370496 : Int) = ((4503599627370496 : Nat) : Int) from rfl, this]
  congr 1
  rw [Nat.or_comm]
  exact nat_join 52 4503599627370496 f (by omega) (by omega)

structure SetOut (w : World) (Bs : Nat) (l : List UInt8) (w' : World) : Prop where
  buf : ∃ c, w'.heap[Bs]? = some (.cells c 108 (0, 0))
  cells : ∀ j, j < l.length → w'.cell? ⟨Bs, j, none⟩ = some (.int .u8 ((l.getD j 0).toNat : Int))
  below : Below Bs w w'
theorem global7 : Tryz.prog.globalNamed "internal/strconv.uint64pow10" = some 7 := by kernel_rfl
theorem alloc_block (w : World) (o : Obj) : (w.alloc o).heap[w.heap.size]? = some o := by
  show (w.heap.push o)[w.heap.size]? = some o
  simp
theorem bitLen_blen (k : Nat) : ∀ x, x < 2 ^ k → k ≤ 64 → Lib.bitLen x = blen x := by
  induction k with
  | zero => intro x hx _; obtain rfl : x = 0 := by omega
            rfl
  | succ k ih =>
    intro x hx hk
    by_cases h : x = 0
    · subst h; rfl
    · have hx64 : x < 2 ^ 64 := Nat.lt_of_lt_of_le hx (Nat.pow_le_pow_right (by omega) hk)
      rw [Lib.bitLen_half x h hx64, blen_half x h, ih (x / 2) (by rw [Nat.pow_succ] at hx; omega) (by omega)]
      omega

set_option maxRecDepth 100000 in
set_option maxHeartbeats 16000000 in
theorem ftoa_walk (v : Value) (B0 n D d j0 L : Nat) (e pp : Int) (h : Parts n e) (w : World) (hD : (shortOf n e).1 = D) (hpp : -(shortOf n e).2 = pp) (hDd : D = d * 10 ^ j0) (hd : d % 10 ≠ 0) (hD64 : D < 100000000000000000000) (hD64' : D < 18446744073709551616) (hppb : -900 ≤ pp ∧ pp ≤ 900) (hL : (dec d).length = L) (hown : w.ownsRow B0 5 1 v 0 (byteCells [])) (hB : B0 ≤ w.heap.size) (hPT : PTab w) (hTT : Lib.TabIs Tryz.prog w "internal/strconv.uint64pow10" .u64 Lib.pow10Tab) :
    Calls Tryz.prog 66 #[v, .float .f64 (wordOf n e), .int .u8 101, .int .i64 (-1)] w fun r w' => ∃ v', r = .returned v' ∧ w'.ownsRow B0 5 1 v' (eText (dec d) ((L : Int) + j0 + pp - 1)).length (byteCells (eText (dec d) ((L : Int) + j0 + pp - 1))) ∧ Below B0 w w' := by
  have hw := word_lt h
  obtain ⟨b, hb⟩ : ∃ b, wordOf n e = b := ⟨_, rfl⟩
  have HPP := hideIt h
  obtain ⟨s, hs⟩ : ∃ s, 64 - blen n = s := ⟨_, rfl⟩
  obtain ⟨s0, s1, t1, t2, t3⟩ := norm_top n h.pos h.lt s hs.symm
  have cSh := fun w hp => short_any n e h s hs.symm w hp
  rw [hD, hpp] at cSh
  obtain ⟨M, hM⟩ : ∃ M, n * 2 ^ s = M := ⟨_, rfl⟩
  rw [hM] at cSh t1
  have bM : IntKind.u64.wrap ((n : Int) * 2 ^ s) = (M : Int) := u64_in _ _ (by rw [← hM, Int.natCast_mul, Int.natCast_pow]; rfl) t1
  have hbl : blen n = 64 - s ∧ blen n ≤ 64 := by unfold blen at hs ⊢; have := (Nat.log2_lt (k := 53) (show n ≠ 0 by have := h.pos; omega)).2 (by have := h.lt; omega); rw [if_neg (by have := h.pos; omega)] at hs ⊢; omega
  have hn64 : n < 2 ^ 64 := by
    have e64 : (2 : Nat) ^ 64 = 18446744073709551616 := by decide
    rw [e64]; have := h.lt; omega
  have cL : ∀ w, Calls Tryz.prog 91 #[.int .u64 (n : Int)] w fun e w' => e = .returned (.int .i64 (blen n : Nat)) ∧ w' = w := fun w => by
    have c := Tryz.bits_Len64 (n : Int) w (by omega) (by have := h.lt; omega)
    have e1 : Lib.bitLen ((n : Int)).toNat = blen n := by rw [Int.toNat_natCast]; exact bitLen_blen 64 n hn64 (Nat.le_refl _)
    rw [e1] at c
    exact c
  obtain ⟨bl, hblv⟩ : ∃ bl, blen n = bl := ⟨_, rfl⟩
  rw [hblv] at cL hbl
  have k2 : 64 - (bl : Int) = (s : Int) := by omega
  have k3 : e + 52 - (s : Int) - 52 = e - (s : Int) := by omega
  have HB0 := hideIt hB
  have HOWN := hideIt hown
  have HPT := hideIt hPT
  have HTT := hideIt hTT
  have HDD := hideIt hDd
  have HDM := hideIt hd
  have HD64 := hideIt hD64'
  have HLL := hideIt hL
  have HD20 := hideIt hD64
  clear hs t1 t2 t3 hM hn64 hblv hbl hB hown hPT hTT hDd hd hD64 hD64' hL hD hpp
  obtain ⟨x1, x2, x3, x4, x5⟩ := h
  have H : Hid (b / 4503599627370496 = (if n < 4503599627370496 then 0 else (e + 1075).toNat) ∧ b % 4503599627370496 = (if n < 4503599627370496 then n else n - 4503599627370496)) := hideIt (by
    rw [← hb]
    by_cases hs : n < 4503599627370496
    · obtain rfl : e = -1074 := by omega
      have e1 : wordOf n (-1074) = n := by unfold wordOf; simp
      rw [if_pos hs, if_pos hs, e1]; omega
    · rw [if_neg hs, if_neg hs]; unfold wordOf at hw ⊢; omega)
  rw [hb] at hw ⊢
  have rb := run_bits2 b
  have g0 := u64_shr63 b (by omega)
  obtain ⟨F, hF⟩ : ∃ F, b / 4503599627370496 = F := ⟨_, rfl⟩
  obtain ⟨f, hf⟩ : ∃ f, b % 4503599627370496 = f := ⟨_, rfl⟩
  have g1 : (b : Int) / 4503599627370496 = (F : Int) := by omega
  have g2 := i64_field F (by omega)
  have g3 : bits .and .u64 (b : Int) 4503599627370495 = (f : Int) := by rw [u64_mant b (by omega), hf]
  have g4 : ((F : Int) == 2047) = false := by rw [beq_eq_false_iff_ne]; omega
  rw [hF, hf] at H
  have FB : F ≤ 2046 := by omega
  have HX5 := hideIt x5
  have HX2 := hideIt x2
  clear hb hw hF hf x5 x2
  go_enter Tryz.func66, Tryz.ntmps66
  go_wp2_with fail
  go_quiet (fail)
  have H0 : Below w.heap.size w (w.drewN nq) := below_draws (Below.refl _ _) nq
  obtain ⟨w0, hw0⟩ : ∃ w0, w.drewN nq = w0 := ⟨_, rfl⟩
  rw [hw0] at H0 ⊢
  clear hw0
  go_upto_if 78 with (fail)
  go_cut [14, 15] (fun ev mv wx => ev = .int .i64 (e + 1075) ∧ mv = .int .u64 (n : Int) ∧ wx = w0)
  case first =>
    by_cases hs : n < 4503599627370496
    · obtain ⟨a1, a2⟩ := H.out
      rw [if_pos hs] at a1 a2
      have he : e = -1074 := by have := HX5.out; omega
      subst he
      subst a1
      subst a2
      clear hs
      go_wp2_with fail
      go_meet
      exact ⟨rfl, rfl, rfl⟩
    · obtain ⟨a1, a2⟩ := H.out
      rw [if_neg hs] at a1 a2
      have q1 : (F : Int) = e + 1075 := by omega
      have q2 : ((F : Int) == 0) = false := by rw [beq_eq_false_iff_ne]; omega
      have q3 : bits .or .u64 (f : Int) 4503599627370496 = (n : Int) := by rw [u64_full f (by have := HX2.out; omega)]; omega
      have Q1 := hideIt q1
      clear hs a1 a2 q1
      go_wp2_with fail
      go_meet
      exact ⟨by rw [Q1.out], rfl, rfl⟩
  case rest =>
    obtain ⟨rfl, rfl, hwc⟩ := hcut
    rw [hwc]
    clear hwc wc g2 g3 g4 g1 g0 rb FB
    have n0 : ((n : Int) == 0) = false := by rw [beq_eq_false_iff_ne]; omega
    have k1 : e + 1075 + -1023 = e + 52 := by omega
    have eb : -1074 ≤ e ∧ e ≤ 971 := ⟨x3, x4⟩
    go_wp2_with fail
    refine (cL _).mono ?_
    rintro r w1 ⟨rfl, hw1⟩
    have hbuf : w1.heap[w0.heap.size]? = some (.cells (Array.replicate 32 (.int .u8 0)) 108 (0, 0)) := by rw [hw1]; exact alloc_block _ _
    have hz : ∀ j, j < 32 → w1.cell? ⟨w0.heap.size, j, none⟩ = some (.int .u8 0) := fun j hj => by
      simp only [World.cell?, hbuf]
      simp [hj]
    have H1 : Below w.heap.size w w1 := by rw [hw1]; exact H0.alloc H0.size _
    have hsz1 : w1.heap.size = w0.heap.size + 1 := by rw [hw1]; simp
    have hB0 : w.heap.size ≤ w0.heap.size := H0.size
    clear hw1 cL
    go_wp2_with fail
    refine (cSh w1 (Joins.tab_stays global8 HPT.out H1 (Nat.le_refl _))).mono ?_
    rintro r w2 ⟨rfl, hb2⟩
    have H2 : Below w.heap.size w w2 := H1.trans (hb2.mono H1.size)
    have hbuf2 : w2.heap[w0.heap.size]? = some (.cells (Array.replicate 32 (.int .u8 0)) 108 (0, 0)) := (hb2.block _ (by omega)).trans hbuf
    have hz2 : ∀ j, j < 32 → w2.cell? ⟨w0.heap.size, j, none⟩ = some (.int .u8 0) := fun j hj => (hb2.cell (by show w0.heap.size < w1.heap.size; omega)).trans (hz j hj)
    have HZ2 := hideIt hz2
    have HBUF := hideIt hbuf2
    clear hbuf hz hb2 cSh H1 hz2 hbuf2
    have hd0 : d ≠ 0 := by intro h0; exact HDM.out (by rw [h0])
    have HDN : Hid (D ≠ 0) := hideIt (by rw [HDD.out]; have := Nat.mul_pos (Nat.pos_of_ne_zero hd0) (Nat.pow_pos (n := j0) (show 0 < 10 by omega)); omega)
    have HDLEN : Hid ((dec D).length = L + j0) := hideIt (by rw [HDD.out, dec_len_pow d j0 hd0, HLL.out])
    have HND20 : Hid (L + j0 ≤ 20) := hideIt (by
      have a := decR_ge D HDN.out
      rw [← dec_length, HDLEN.out] at a
      rcases Nat.lt_or_ge 20 (L + j0) with g | g
      · have : 10 ^ 20 ≤ 10 ^ (L + j0 - 1) := Nat.pow_le_pow_right (by omega) (by omega)
        have := HD20.out
        omega
      · exact g)
    clear hd0
    have cN : ∀ q, Calls Tryz.prog 94 #[.int .u64 (D : Int)] (w2.drewN q) fun e w' => e = .returned (.int .i64 ((L + j0 : Nat) : Int)) ∧ w' = w2.drewN q := fun q => by
      have c := Tryz.internal_strconv_numDigits D (Nat.pos_of_ne_zero HDN.out) HD64.out (w2.drewN q) (Joins.tab_stays global7 HTT.out (below_draws H2 q) (Nat.le_refl _))
      rw [nDigits_eq D HDN.out, HDLEN.out] at c
      exact c
    have cS := fun q => set_any w0.heap.size D d j0 L (L + j0) pp _ 108 (w2.drewN q) HDD.out HDM.out HD64.out HLL.out rfl HND20.out (by omega) HBUF.out HZ2.out
    have HPB := hideIt hppb
    clear hppb
    go_upto_region 38 with (fail)
    go_cut [22, 23] (fun av bv wx => av = .int .i64 (((L + j0 : Nat) : Int) + pp) ∧ bv = .int .i64 (L : Int) ∧ SetOut w2 w0.heap.size (dec d) wx)
    case first =>
      go_region_with (first | (go_at_call 94; refine (cN _).mono ?_; rintro r w3 ⟨rfl, rfl⟩) | (go_at_call 93; refine (cS _).mono ?_; rintro r w3 ⟨rfl, ⟨c3, hc3⟩, hcell3, hb3⟩))
      all_goals
        go_wp2_with fail
        go_meet
        refine ⟨rfl, rfl, ⟨⟨c3, hc3⟩, fun j hj => hcell3 j (by rw [HLL.out] at hj; exact hj), ?_⟩⟩
        exact (below_draws (Below.refl _ _) _).trans hb3
    case rest =>
      obtain ⟨rfl, rfl, hso⟩ := hcut
      obtain ⟨⟨c3, hc3⟩, hcell3, hb3⟩ := hso
      have hLp : 0 < L := by rw [← HLL.out]; exact dec_pos d (by intro h0; exact HDM.out (by rw [h0]))
      have hL20 : L ≤ 20 := by have := HND20.out; omega
      have H3 : Below w.heap.size w wc := H2.trans (hb3.mono hB0)
      have hdst : Dst wc B0 w0.heap.size c3 108 wc v [] := ⟨owns_below HOWN.out H3, Below.refl _ _, hc3, by decide, Nat.le_trans HB0.out H3.size, by simp⟩
      have cE := efg_any v B0 w0.heap.size 32 c3 108 (dec d) ((L : Int) + j0 + pp - 1) wc hdst (by rw [HLL.out]; exact hLp) (by rw [HLL.out]; exact hL20) (by rw [HLL.out]; omega) (by have := HND20.out; have := HPB.out; omega) hcell3
      rw [show (L : Int) + j0 + pp - 1 + 1 = (L : Int) + j0 + pp by omega, HLL.out] at cE
      have em : max (wrap64 ((L : Int) - 1)) 0 = (L : Int) - 1 := by rw [IntWalk.wrap64_in _ ⟨by omega, by omega⟩]; omega
      have CE := hideIt cE
      have em2 : max ((L : Int) - 1) 0 = (L : Int) - 1 := by omega
      have EM := hideIt em
      have EM2 := hideIt em2
      clear cE em em2 hcell3 hdst hb3 hc3
      go_wp2_with fail
      first | rw [EM.out] | rw [EM2.out]
      refine CE.out.mono ?_
      rintro r w4 ⟨v4, rfl, d4⟩
      go_wp2_with fail
      go_ret
      exact ⟨_, rfl, d4.own, (H3.mono HB0.out).trans d4.below⟩
end Go.Proofs.YtdijkobiffhgcaaGreatDoor.Nu
