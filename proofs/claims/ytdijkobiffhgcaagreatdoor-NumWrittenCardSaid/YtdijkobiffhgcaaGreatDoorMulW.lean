/-
  The reference's Mul, walked. Conditions: at most 200000 digits each.
-/
import Derived.Test.YtdijkobiffhgcaaGreatDoorMul
namespace Go.Proofs.YtdijkobiffhgcaaGreatDoor.Nu
open Go.RowKit Go.Lib

theorem made_zeros (n : Nat) : (madeCells #[Value.int IntKind.u32 0] n).toList = dVals (List.replicate n 0) := by
  apply List.ext_getElem
  · simp [madeCells, dVals]
  · intro j h1 h2
    simp [madeCells, Nat.mod_one, dVals]

theorem dVals_set (l : List Nat) (j d : Nat) : (dVals l).set j (.int .u32 (d : Int)) = dVals (l.set j d) := by
  simp [dVals, List.map_set]
theorem dVals_get (l : List Nat) (j : Nat) (h : j < l.length) : (dVals l)[j]? = some (.int .u32 (l.getD j 0 : Nat)) := by
  simp [dVals, List.getD, List.getElem?_eq_getElem h]

set_option maxRecDepth 100000 in
set_option maxHeartbeats 4000000 in
theorem mul_lists (ad bd : Option Addr) (ca cb : Nat) (a b : List Nat) (w : World) (hza : a.length ≤ 200000) (hzb : b.length ≤ 200000) (hda : ∀ d ∈ a, d < 65536) (hdb : ∀ d ∈ b, d < 65536)
    (ha : RdAt w ad a) (hb : RdAt w bd b) :
    Calls Tryz.prog 62 #[.slice ad a.length ca, .slice bd b.length cb] w fun e w' => ∃ v, e = .returned v ∧ IsN w' v (val a * val b) ∧ Below w.heap.size w w' := by
  obtain ⟨i0, hi, hz0, hz1, hz2⟩ := info_parts info59
  have HA := hideIt ha
  have HB := hideIt hb
  have DA := hideIt hda
  have DB := hideIt hdb
  have n0 : IntKind.i64.wrap ((a.length : Int) + b.length) = ((a.length + b.length : Nat) : Int) := by
    have := IntWalk.i64_in ((a.length : Int) + b.length) (by omega)
    rw [this]; omega
  clear ha hb hda hdb
  obtain ⟨n, hn⟩ : ∃ n, a.length + b.length = n := ⟨_, rfl⟩
  rw [hn] at n0
  go_enter Tryz.func62, Tryz.ntmps62
  go_wp2_with (first | (at_make; refine wpList_make_full _ rfl _ _ 36 rfl w.heap.size 59 i0 (.int .u32 0) 1 Tryz.underlying36 hi hz0 hz1 .i64 .i64 _ _ n rfl rfl ?a1 ?a2 ?a3 ?a4 (Nat.le_refl _) ?_) | go_in)
  case a1 => first | rfl | omega
  case a2 => first | rfl | omega
  case a3 => rw [hz2]; omega
  case a4 => unfold maxLen; omega
  intro w1 hown1 hg1
  have hb1 : Below w.heap.size w w1 := (Below.refl _ _).grown hg1 (Nat.le_refl _) (fun k hk => by cases hk)
  have hsz1 : w.heap.size ≤ w1.heap.size := hg1.size
  rw [made_zeros] at hown1
  clear hg1
  go_wp2_with fail
  go_loopw [6] (fun iv wr => ∃ (i : Nat) (out : List Nat), iv = .int .i64 i ∧ i ≤ a.length ∧ MulAt a b out i 0 0 ∧ wr.ownsRow w.heap.size 59 1 (.slice (some ⟨w.heap.size, 0, none⟩) n n) n (dVals out) ∧ Below w.heap.size w wr)
    (fun iv _ => a.length - (RowKit.intOf iv).toNat)
  case atStart => exact ⟨0, _, rfl, Nat.zero_le _, hn ▸ MulAt.start a b, hown1, hb1⟩
  case round =>
    obtain ⟨i, out, rfl, hia, hmul0, hown, hnx⟩ := hrel
    have hmul := hideIt hmul0
    clear hmul0 hown1 hb1
    by_cases hA : i < a.length
    · obtain ⟨ba, oa, rfl, hca⟩ := HA.out i hA
      go_wp2_with fail
      go_loopw [7, 8] (fun cv kv wr => ∃ (k c : Nat) (out : List Nat), cv = .int .u32 c ∧ kv = .int .i64 k ∧ k ≤ b.length ∧ MulAt a b out i k c ∧ wr.ownsRow w.heap.size 59 1 (.slice (some ⟨w.heap.size, 0, none⟩) n n) n (dVals out) ∧ Below w.heap.size w wr)
        (fun _ kv _ => b.length - (RowKit.intOf kv).toNat)
      case atStart => exact ⟨0, 0, out, rfl, rfl, Nat.zero_le _, hmul.out, hown, hnx⟩
      case round =>
        obtain ⟨k, c, out2, rfl, rfl, hkb, hm0, hown2, hnx2⟩ := hrel
        have hm := hideIt hm0
        have hlen : out2.length = n := by have := hm0.len; omega
        have hc1 := hm0.carry
        clear hm0 hown hnx
        by_cases hB : k < b.length
        · obtain ⟨bb, ob, rfl, hcb⟩ := HB.out k hB
          obtain ⟨U, hU⟩ : ∃ U, a.getD i 0 = U := ⟨_, rfl⟩
          obtain ⟨V, hV⟩ : ∃ V, b.getD k 0 = V := ⟨_, rfl⟩
          obtain ⟨O, hO⟩ : ∃ O, out2.getD (i + k) 0 = O := ⟨_, rfl⟩
          have hUl : U < 65536 := by rw [← hU]; exact getD_lt a DA.out i
          have hVl : V < 65536 := by rw [← hV]; exact getD_lt b DB.out k
          have hOl : O < 65536 := by rw [← hO]; exact getD_lt out2 hm.out.dig _
          have c1 : wr.cell? ⟨ba, oa + i, none⟩ = some (.int .u32 (U : Int)) := by rw [← hU]; exact (hnx2.cell (World.block_lt_of_cell? w _ hca)).trans hca
          have c2 : wr.cell? ⟨bb, ob + k, none⟩ = some (.int .u32 (V : Int)) := by rw [← hV]; exact (hnx2.cell (World.block_lt_of_cell? w _ hcb)).trans hcb
          have c3 : wr.cell? ⟨w.heap.size, i + k, none⟩ = some (.int .u32 (O : Int)) := by rw [← hO, hown2.cellAt (i + k) (by omega), dVals_get out2 (i + k) (by omega)]
          have f3 : wr.frozen? ⟨w.heap.size, i + k, none⟩ = false := hown2.frozenAt _
          have s1 : IntKind.i64.wrap ((i : Int) + k) = (i : Int) + k := IntWalk.i64_in _ (by omega)
          have s2 : ((i : Int) + k).toNat = i + k := by omega
          have s3 : (0 : Int) ≤ (i : Int) + k ∧ (i : Int) + k < n := by omega
          have s4 : (0 : Int) ≤ (i : Int) ∧ (i : Int) < a.length := by omega
          have s5 : (0 : Int) ≤ (k : Int) ∧ (k : Int) < b.length := by omega
          obtain ⟨m, hmv⟩ : ∃ m, U * V = m := ⟨_, rfl⟩
          have hml : m ≤ 4294836225 := by
            rw [← hmv]
            exact Nat.mul_le_mul (show U ≤ 65535 by omega) (show V ≤ 65535 by omega)
          have e1 : (U : Int) * V = (m : Int) := by rw [← hmv]; exact (Int.natCast_mul _ _).symm
          obtain ⟨x, hx⟩ : ∃ x, O + m + c = x := ⟨_, rfl⟩
          have hst := hideIt (hm.out.step hA hB x (by rw [hU, hV, hO, hmv]; omega) (by omega))
          have g1 : IntKind.u32.wrap ((U : Int) * V) = (m : Int) := by rw [e1]; exact u32_in _ _ rfl (by omega)
          have g2 : IntKind.u32.wrap ((O : Int) + m) = (O : Int) + m := by have := u32_in ((O : Int) + m) (O + m) (by omega) (by omega); rw [this]; omega
          have g2' : IntKind.u32.wrap ((O : Int) + m + c) = (x : Int) := u32_in _ _ (by omega) (by omega)
          obtain ⟨d, hd⟩ : ∃ d, x % 65536 = d := ⟨_, rfl⟩
          obtain ⟨q, hq⟩ : ∃ q, x / 65536 = q := ⟨_, rfl⟩
          have g3 : (x : Int) % 65536 = (d : Int) := by omega
          have g4 : IntKind.u32.wrap ((x : Int) / 65536) = (q : Int) := u32_in _ _ (by omega) (by omega)
          have g5 : IntKind.i64.wrap ((k : Int) + 1) = (k : Int) + 1 := IntWalk.i64_in _ (by omega)
          rw [hd, hq] at hst
          have hB' : (k : Int) < b.length := by omega
          clear hU hV hO hUl hVl hOl hmv hml e1 hx hd hq hca hcb hc1
          go_wp2
          go_quiet (fail)
          go_wp2
          refine ⟨⟨k + 1, q, _, rfl, by first | rfl | go_num, by omega, hst.out, ?_, (below_draws hnx2 nq).setCell (Nat.le_refl _) _⟩, ?_⟩
          · have := ((owns_draws hown2 nq).stored (i + k) (.int .u32 (d : Int))).1
            rwa [dVals_set] at this
          · simp only [RowKit.intOf]
            omega
        · obtain rfl : k = b.length := by omega
          have hB' : ¬ ((b.length : Int) < b.length) := by omega
          obtain ⟨r1, r2⟩ := hm.out.row hA
          obtain ⟨O, hO⟩ : ∃ O, out2.getD (i + b.length) 0 = O := ⟨_, rfl⟩
          rw [hO] at r1 r2
          have c3 : wr.cell? ⟨w.heap.size, i + b.length, none⟩ = some (.int .u32 (O : Int)) := by rw [← hO, hown2.cellAt (i + b.length) (by omega), dVals_get out2 (i + b.length) (by omega)]
          have f3 : wr.frozen? ⟨w.heap.size, i + b.length, none⟩ = false := hown2.frozenAt _
          have s1 : IntKind.i64.wrap ((i : Int) + b.length) = (i : Int) + b.length := IntWalk.i64_in _ (by omega)
          have s2 : ((i : Int) + b.length).toNat = i + b.length := by omega
          have s3 : (0 : Int) ≤ (i : Int) + b.length ∧ (i : Int) + b.length < n := by omega
          obtain ⟨x, hx⟩ : ∃ x, O + c = x := ⟨_, rfl⟩
          rw [hx] at r1 r2
          have g1 : IntKind.u32.wrap ((O : Int) + c) = (x : Int) := u32_in _ _ (by omega) (by omega)
          have g5 : IntKind.i64.wrap ((i : Int) + 1) = (i : Int) + 1 := IntWalk.i64_in _ (by omega)
          have hst := hideIt r2
          clear r1 r2 hO hx hc1
          go_wp2
          refine ⟨⟨i + 1, _, by first | rfl | go_num, by omega, hst.out, ?_, hnx2.setCell (Nat.le_refl _) _⟩, ?_⟩
          · have := (hown2.stored (i + b.length) (.int .u32 (x : Int))).1
            rwa [dVals_set] at this
          · simp only [RowKit.intOf]
            omega
    · obtain rfl : i = a.length := by omega
      have hA' : ¬ ((a.length : Int) < a.length) := by omega
      have hv := hmul.out.done rfl
      have hlen : out.length = n := by have := hmul.out.len; omega
      have cC := cut_reads _ out wr (by omega) hmul.out.dig (Reads32.of_owns hown)
      rw [hv] at cC
      clear hv hown hlen
      go_wp2_with fail
      refine cC.mono ?_
      rintro e w2 ⟨v, rfl, hN, hb2⟩
      go_wp2_with fail
      go_ret
      exact ⟨_, rfl, hN, hnx.trans (hb2.mono hnx.size)⟩

theorem mul_any (va vb : Value) (X Y : Nat) (w : World) (hx : (dg X).length ≤ 200000) (hy : (dg Y).length ≤ 200000) (ha : IsN w va X) (hb : IsN w vb Y) :
    Calls Tryz.prog 62 #[va, vb] w fun e w' => ∃ v, e = .returned v ∧ IsN w' v (X * Y) ∧ Below w.heap.size w w' := by
  obtain ⟨ad, ca, rfl, h1⟩ := Reads32.at ha
  obtain ⟨bd, cb, rfl, h2⟩ := Reads32.at hb
  have := mul_lists ad bd ca cb (dg X) (dg Y) w hx hy (dg_digit X) (dg_digit Y) h1 h2
  rwa [val_dg, val_dg] at this
end Go.Proofs.YtdijkobiffhgcaaGreatDoor.Nu
