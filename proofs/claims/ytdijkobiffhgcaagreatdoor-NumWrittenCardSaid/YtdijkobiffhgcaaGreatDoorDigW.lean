/-
  The reference's Digits to the base 10. Conditions: at most 30000 digits to the base 65536.
-/
import Derived.Test.YtdijkobiffhgcaaGreatDoorQuoW
namespace Go.Proofs.YtdijkobiffhgcaaGreatDoor.Nu
open Go.RowKit Go.Lib

/-- 'string(b)', b a row of bytes of the call's own (or nil). -/
theorem run_convert_row {P : Program} (w : World) (src dst e : TypeId) (hs : P.underlying src = some (.slice e)) (he : P.underlying e = some (.int .u8)) (hd : P.underlying dst = some .string)
    {B n : Nat} {v : Value} {l : List UInt8} (h : w.ownsRow B e 1 v n (byteCells l)) : (convert src dst v).run P w = .ok (.string ⟨l.toArray⟩) w := by
  have hn : l.length = n := by have := h.1; rw [byteCells_length] at this; omega
  rcases h.2 with ⟨rfl, h0⟩ | ⟨g, cap, cur, rfl, _, hg, _, _, _, htk⟩
  · obtain rfl : l = [] := List.eq_nil_of_length_eq_zero (by omega)
    exact run_convert_bytes_nil w src e hs he 0 0 dst hd
  · subst hn
    rw [Nat.mul_one] at htk
    refine run_convert_bytes_back w src dst e ⟨g, 0, none⟩ cap l hs he hd (fun j hj => ?_)
    rw [addr_add, cell_of_row w g j cur e (0, 0) hg]
    have : (cur.toList.take l.length)[j]? = (byteCells l)[j]? := by rw [htk]
    rw [List.getElem?_take_of_lt hj] at this
    simpa [byteCells, hj] using this

def lenOf : Value → Nat | .slice _ n _ => n | _ => 0
theorem lenOf_owns {w : World} {B n : Nat} {e : TypeId} {v : Value} {xs : List Value} (h : w.ownsRow B e 1 v n xs) : lenOf v = n := by
  rcases h.2 with ⟨rfl, h0⟩ | ⟨g, cap, cur, rfl, _⟩
  · exact h0.symm
  · rfl

theorem info5 : (Tryz.prog.info? 5).map (fun i => (i.zero, i.size, i.bytes)) = some (some (.int .u8 0), 1, 1) := by kernel_rfl

/-- the digits as bytes, the lowest first. -/
def decB (n : Nat) : List UInt8 := (decR n).map fun d => UInt8.ofNat (48 + d)
theorem dec_eq (n : Nat) : dec n = (decB n).reverse := by unfold dec decB; rw [List.map_reverse]
theorem decB_step (n : Nat) (h : n ≠ 0) : decB n = UInt8.ofNat (48 + n % 10) :: decB (n / 10) := by unfold decB; rw [decR_step n h]; rfl
theorem decB_length (n k : Nat) (h : Fit n k) : (decB n).length ≤ 5 * k := by
  unfold decB
  rw [List.length_map]
  by_cases h0 : n = 0
  · subst h0; rw [decR_zero]; exact Nat.zero_le _
  · have a := decR_ge n h0
    rcases Nat.lt_or_ge (5 * k) (decR n).length with g | g
    · have b : 10 ^ (5 * k) ≤ 10 ^ ((decR n).length - 1) := Nat.pow_le_pow_right (by omega) (by omega)
      have c : (65536 : Nat) ^ k ≤ 10 ^ (5 * k) := by
        rw [Nat.pow_mul]
        exact Nat.pow_le_pow_left (by decide) k
      have := h.lt
      omega
    · exact g

/-- a digit's byte. -/
theorem run_digit (d : Nat) (h : d < 10) (w : World) : (Instr.index 9 (.string ⟨#[48, 49, 50, 51, 52, 53, 54, 55, 56, 57, 97, 98, 99, 100, 101, 102, 103, 104, 105, 106, 107, 108, 109, 110, 111, 112, 113, 114, 115, 116, 117, 118, 119, 120, 121, 122]⟩) (.int .u32 (d : Int))).run Tryz.prog w = .ok (.int .u8 ((UInt8.ofNat (48 + d)).toNat : Int)) w :=
  match d, h with
  | 0, _ => by kernel_rfl
  | 1, _ => by kernel_rfl
  | 2, _ => by kernel_rfl
  | 3, _ => by kernel_rfl
  | 4, _ => by kernel_rfl
  | 5, _ => by kernel_rfl
  | 6, _ => by kernel_rfl
  | 7, _ => by kernel_rfl
  | 8, _ => by kernel_rfl
  | 9, _ => by kernel_rfl
  | d + 10, h => absurd h (by omega)

theorem owns_step8 {w : World} {B : Nat} {v : Value} {acc zs : List UInt8} {m : Nat} (hm : zs.length = m)
    (h : w.ownsRow B 5 1 v (acc.length + m) (byteCells acc ++ byteCells zs)) : w.ownsRow B 5 1 v (acc ++ zs).length (byteCells (acc ++ zs)) := by
  rw [byteCells_append, List.length_append, hm]
  exact h

theorem owns_rd8 {w : World} {B : Nat} {v : Value} {l : List UInt8} (h : w.ownsRow B 5 1 v l.length (byteCells l)) :
    ∃ ad cap, v = .slice ad l.length cap ∧ ∀ j, j < l.length → ∃ g, ad = some ⟨g, 0, none⟩ ∧ w.cell? ⟨g, j, none⟩ = some (.int .u8 ((l.getD j 0).toNat : Int)) := by
  rcases h.2 with ⟨rfl, h0⟩ | ⟨g, cap, cur, rfl, hx⟩
  · exact ⟨none, 0, by rw [h0], fun j hj => by omega⟩
  · refine ⟨_, _, rfl, fun j hj => ⟨g, rfl, ?_⟩⟩
    rw [h.cellAt j (by omega)]
    simp [byteCells, List.getD, hj]
theorem drop_rev (l : List UInt8) (m : Nat) (h : m < l.length) : (l.drop m).reverse = (l.drop (m + 1)).reverse ++ [l.getD m 0] := by
  rw [List.drop_eq_getElem_cons h, List.reverse_cons]
  simp [List.getD, List.getElem?_eq_getElem h]

def decZ (n : Nat) : List UInt8 := if n = 0 then [48] else dec n

set_option maxRecDepth 100000 in
set_option maxHeartbeats 4000000 in
theorem digits_pos (va : Value) (X : Nat) (w : World) (h0 : X ≠ 0) (hx : Fit X 30000) (ha : IsN w va X) :
    Calls Tryz.prog 15 #[va, .int .i64 10] w fun e w' => e = .returned (.string ⟨(dec X).toArray⟩) ∧ Below w.heap.size w w' := by
  obtain ⟨i0, hi, hz0, hz1, hz2⟩ := info_parts info5
  obtain ⟨ad, ca, rfl, h1⟩ := Reads32.at ha
  have hL := decB_length X 30000 hx
  have n0 : (((dg X).length : Int) == 0) = false := by
    rw [beq_eq_false_iff_ne]
    intro h
    have : dg X = [] := List.eq_nil_of_length_eq_zero (by omega)
    exact h0 ((dg_nil X).1 this)
  clear h1
  have g10 : IntKind.u32.wrap 10 = 10 := by decide
  have HX := hideIt h0
  clear h0
  go_enter Tryz.func15, Tryz.ntmps15
  go_wp2_with fail
  go_loopw [0, 5, 6, 7] (fun av bv _ _ wr => ∃ (t : Nat) (acc : List UInt8), IsN wr av t ∧ wr.ownsRow w.heap.size 5 1 bv acc.length (byteCells acc) ∧ acc ++ decB t = decB X ∧ t ≤ X ∧ Below w.heap.size w wr)
    (fun _ bv _ _ _ => (decB X).length - lenOf bv)
  case atStart => exact ⟨X, [], ha, World.ownsRow_nil _ _ _ _, rfl, Nat.le_refl _, Below.refl _ _⟩
  case round =>
    obtain ⟨t, acc, hN, hown, hacc, htX, hnx⟩ := hrel
    have hlen : acc.length + (decB t).length = (decB X).length := by rw [← hacc, List.length_append]
    have hB : w.heap.size ≤ wr.heap.size := hnx.size
    have hlo := lenOf_owns hown
    have HACC := hideIt hacc
    clear hacc
    obtain ⟨a2, c2, rfl, h2⟩ := Reads32.at hN
    clear h2
    by_cases t0 : t = 0
    · subst t0
      have hz : (dg 0).length = 0 := by rw [dg_zero]; rfl
      have m0 : ¬ (0 : Int) < ((dg 0).length : Int) := by omega
      have hacc := HACC.out
      have e0 : decB 0 = [] := by unfold decB; rw [decR_zero]; rfl
      rw [e0, List.append_nil] at hacc
      subst hacc
      obtain ⟨ab, cb, rfl, hcells0⟩ := owns_rd8 hown
      have hcells := hideIt hcells0
      have s0 : IntKind.i64.wrap (((decB X).length : Int) - 1) = ((decB X).length : Int) - 1 := IntWalk.i64_in _ (by omega)
      clear hz hlo hlen e0 hcells0
      go_wp2_with fail
      obtain ⟨wo, rfl⟩ : ∃ wo : World, wo = wr := ⟨_, rfl⟩
      go_loopw [8, 9] (fun ov iv wl => ∃ k : Nat, k ≤ (decB X).length ∧ iv = .int .i64 ((k : Int) - 1) ∧ wl.ownsRow wo.heap.size 5 1 ov ((decB X).drop k).reverse.length (byteCells ((decB X).drop k).reverse) ∧ Below wo.heap.size wo wl)
        (fun _ iv _ => (RowKit.intOf iv + 1).toNat)
      case atStart => exact ⟨(decB X).length, Nat.le_refl _, rfl, by rw [List.drop_length]; exact World.ownsRow_nil _ _ _ _, Below.refl _ _⟩
      case round =>
        obtain ⟨k, hk, rfl, hown3, hnx3⟩ := hrel
        have hB3 : wo.heap.size ≤ wr.heap.size := hnx3.size
        by_cases k0 : k = 0
        · subst k0
          have e0 : (((0 : Nat) : Int) - 1) = -1 := rfl
          rw [e0]
          rw [List.drop_zero, List.length_reverse] at hown3
          have kc := run_convert_row wr 53 9 5 Tryz.underlying53 Tryz.underlying5 Tryz.underlying9 hown3
          clear e0
          go_wp2_with fail
          go_ret
          refine ⟨?_, hnx.trans (hnx3.mono hB)⟩
          rw [dec_eq]; rfl
        · obtain ⟨m, rfl⟩ : ∃ m, k = m + 1 := ⟨k - 1, by omega⟩
          have e1 : (((m + 1 : Nat) : Int) - 1) = (m : Int) := by omega
          rw [e1]
          obtain ⟨g, rfl, hc⟩ := hcells.out m (by omega)
          obtain ⟨c8, hc8⟩ : ∃ c8, (decB X).getD m 0 = c8 := ⟨_, rfl⟩
          have HR := hideIt (drop_rev (decB X) m (by omega))
          rw [hc8] at hc HR
          have hcx := (hnx3.cell (World.block_lt_of_cell? wo _ hc)).trans hc
          have g5 : IntKind.i64.wrap ((m : Int) - 1) = (m : Int) - 1 := IntWalk.i64_in _ (by omega)
          have hl3 : ((decB X).drop (m + 1)).reverse.length ≤ 150000 := by rw [List.length_reverse, List.length_drop]; omega
          obtain ⟨acc3, hacc3⟩ : ∃ acc3, ((decB X).drop (m + 1)).reverse = acc3 := ⟨_, rfl⟩
          rw [hacc3] at hown3 HR hl3
          have im : (0 : Int) ≤ (m : Int) ∧ (m : Int) < (decB X).length := by omega
          clear e1 hc8 hc k0 hacc3
          go_wp2_with (at_builtin; refine wpList_append_own _ rfl _ _ 53 rfl wo.heap.size 5 i0 (.int .u8 0) 1 1 Tryz.underlying53 hi hz0 hz1 hz2 rfl (by decide) _ _ _ rfl (hown3.alloc _) ⟨wr.heap.size, 0, none⟩ 1 1 (byteCells [c8]) rfl rfl ?c1 ?c2 ?c3 ?c4 ?c5 ?_)
          case c1 => exact cells_new _ _ _
          case c2 => intro u hu; simp [byteCells] at hu; subst hu; rfl
          case c3 => unfold maxLen; omega
          case c4 => omega
          case c5 => simp; omega
          intro v' w2 hown2 hgrow _
          have hs := owns_step8 (zs := [c8]) rfl hown2
          have hb2 := below_step hnx3 hB3 hown3 hgrow
          clear hown2 hgrow hown3 hcx
          go_wp2
          go_roundw
          case rel => exact ⟨m, by omega, rfl, by rw [HR.out]; exact hs, hb2⟩
          case measure => simp only [RowKit.intOf]; omega
    · have m0 : (0 : Int) < ((dg t).length : Int) := by
        have : (dg t).length ≠ 0 := fun h => t0 ((dg_nil t).1 (List.eq_nil_of_length_eq_zero h))
        omega
      have cS := small_any _ t 10 wr (by have := (hx.sub htX).len; omega) (by omega) (by omega) hN
      have HS := hideIt (decB_step t t0)
      obtain ⟨d, hd⟩ : ∃ d, t % 10 = d := ⟨_, rfl⟩
      have hdl : d < 10 := by omega
      rw [hd] at cS HS
      have hpos : (decB t).length = (decB (t / 10)).length + 1 := by rw [HS.out]; rfl
      have hdig := run_digit d hdl
      have HD := hideIt hd
      obtain ⟨c8, hc8⟩ : ∃ c8, UInt8.ofNat (48 + d) = c8 := ⟨_, rfl⟩
      rw [hc8] at hdig HS
      clear hd t0 hc8
      go_wp2_with fail
      refine cS.mono ?_
      rintro e w1 ⟨v1, rfl, N1, hb1, hob⟩
      have hown1 := owns_below hown hb1
      have hnx1 : Below w.heap.size w w1 := hnx.trans (hb1.mono hB)
      have hB1 := hnx1.size
      clear cS
      go_wp2_with (at_builtin; refine wpList_append_own _ rfl _ _ 53 rfl w.heap.size 5 i0 (.int .u8 0) 1 1 Tryz.underlying53 hi hz0 hz1 hz2 rfl (by decide) _ _ _ rfl (hown1.alloc _) ⟨w1.heap.size, 0, none⟩ 1 1 (byteCells [c8]) rfl rfl ?c1 ?c2 ?c3 ?c4 ?c5 ?_)
      case c1 => exact cells_new _ _ _
      case c2 => intro u hu; simp [byteCells] at hu; subst hu; rfl
      case c3 => unfold maxLen; omega
      case c4 => omega
      case c5 => simp; omega
      intro v' w2 hown2 hgrow _
      have hs := owns_step8 (zs := [c8]) rfl hown2
      have hb2 := below_step hnx1 hB1 hown1 hgrow
      have hlo2 := lenOf_owns hs
      have N2 := (N1.later ((Below.refl _ _).alloc (Nat.le_refl _) _)).grown hgrow (fun b hb hv => by rw [hob] at hb; cases hb; exact Nat.lt_irrefl _ (hown.lt _ hv.symm).2)
      clear hown2 hgrow hown1 hown hdig
      go_wp2
      go_roundw
      case rel => 
        refine ⟨t / 10, _, N2, hs, ?_, by omega, hb2⟩
        rw [List.append_assoc, ← HACC.out, HS.out]; rfl
      case measure =>
        show (decB X).length - lenOf v' < (decB X).length - lenOf _
        rw [hlo2, hlo, List.length_append]
        simp only [List.length_cons, List.length_nil]
        omega
end Go.Proofs.YtdijkobiffhgcaaGreatDoor.Nu
