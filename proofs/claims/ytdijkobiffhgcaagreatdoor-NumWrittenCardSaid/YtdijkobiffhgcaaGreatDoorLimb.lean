/-
  The reference's Cut, Cmp and Add over limbs: plain laws and walks. Conditions: as each says.
-/
import Derived.Test.YtdijkobiffhgcaaGreatDoorMem
import Derived.BigQuiet
import Derived.Deep.QuietTactic
import Derived.RegionTactic
namespace Go.Proofs.YtdijkobiffhgcaaGreatDoor.Nu
open Go.RowKit Go.Lib

set_option maxRecDepth 100000 in
set_option maxHeartbeats 1000000 in
theorem cut_some_at (b off cap : Nat) (l : List Nat) (w : World) (hz : l.length ≤ 1000000) (hcap : l.length ≤ cap) (hd : ∀ d ∈ l, d < 65536)
    (hc : ∀ j, j < l.length → w.cell? ⟨b, off + j, none⟩ = some (.int .u32 (l.getD j 0 : Nat))) :
    Calls Tryz.prog 57 #[.slice (some ⟨b, off, none⟩) l.length cap] w fun e w' => ∃ v, e = .returned v ∧ IsN w' v (val l) ∧ Below w.heap.size w w' ∧ v.ownBlock = some b := by
  have hD := hideIt hd
  have hC := hideIt hc
  clear hd hc
  go_enter Tryz.func57, Tryz.ntmps57
  go_wp2_with fail
  go_loopw [3] (fun i wr => ∃ k : Nat, k ≤ l.length ∧ i = .int .i64 k ∧ (∀ j, k ≤ j → j < l.length → l.getD j 0 = 0) ∧ Below w.heap.size w wr)
    (fun i _ => (RowKit.intOf i).toNat)
  case atStart => exact ⟨l.length, Nat.le_refl _, rfl, fun j h1 h2 => absurd h2 (by omega), Below.refl _ _⟩
  case round =>
    obtain ⟨k, hk, rfl, hzero0, hnx⟩ := hrel
    have hzero := hideIt hzero0
    clear hzero0
    by_cases h0 : k = 0
    · subst h0
      go_wp2_with fail
      go_ret
      have hdg : dg (val l) = l.take 0 := dg_cut l hD.out 0 (Nat.zero_le _) (hzero.out) (.inl rfl)
      exact ⟨_, rfl, .inl ⟨by rw [hdg]; rfl, _, _, rfl⟩, hnx, rfl⟩
    · obtain ⟨m, rfl⟩ : ∃ m, k = m + 1 := ⟨k - 1, by omega⟩
      obtain ⟨d, hd⟩ : ∃ d, l.getD m 0 = d := ⟨_, rfl⟩
      have hcx : wr.cell? ⟨b, off + m, none⟩ = some (.int .u32 (d : Int)) := by
        rw [← hd]; exact (hnx.cell (World.block_lt_of_cell? w _ (hC.out m (by omega)))).trans (hC.out m (by omega))
      have s1 : IntKind.i64.wrap (((m + 1 : Nat) : Int) - 1) = (m : Int) := by rw [show ((m + 1 : Nat) : Int) - 1 = m by omega]; exact IntWalk.i64_in _ (by omega)
      have s2 : (0 : Int) < ((m + 1 : Nat) : Int) := by omega
      have hdd := hideIt hd
      clear hd h0
      by_cases hd0 : d = 0
      · subst hd0
        go_wp2_with fail
        refine ⟨⟨m, by omega, rfl, ?_, hnx⟩, by simp [RowKit.intOf]⟩
        intro j h1 h2
        rcases Nat.lt_or_ge m j with h | h
        · exact hzero.out j h h2
        · obtain rfl : j = m := by omega
          exact hdd.out
      · have hd1 : ¬ ((d : Int) = 0) := by omega
        go_wp2_with fail
        go_ret
        have hlast := hdd.out
        have hdg : dg (val l) = l.take (m + 1) := dg_cut l hD.out (m + 1) hk (hzero.out) (.inr (by rw [Nat.add_sub_cancel]; omega))
        have hlen : (l.take (m + 1)).length = m + 1 := by rw [List.length_take]; omega
        refine ⟨.slice (some ⟨b, off, none⟩) (m + 1) cap, rfl, .inr ⟨b, off, cap, by rw [hdg, hlen], by rw [hdg, hlen]; omega, fun j hj => ?_⟩, hnx, rfl⟩
        rw [hdg, hlen] at hj
        rw [hdg]
        have hcj := hC.out j (by omega)
        rw [(hnx.cell (World.block_lt_of_cell? w _ hcj)).trans hcj]
        simp [List.getD, hj]

theorem cut_some (b off cap : Nat) (l : List Nat) (w : World) (hz : l.length ≤ 1000000) (hcap : l.length ≤ cap) (hd : ∀ d ∈ l, d < 65536)
    (hc : ∀ j, j < l.length → w.cell? ⟨b, off + j, none⟩ = some (.int .u32 (l.getD j 0 : Nat))) :
    Calls Tryz.prog 57 #[.slice (some ⟨b, off, none⟩) l.length cap] w fun e w' => ∃ v, e = .returned v ∧ IsN w' v (val l) ∧ Below w.heap.size w w' :=
  (cut_some_at b off cap l w hz hcap hd hc).mono fun _ _ ⟨v, h1, h2, h3, _⟩ => ⟨v, h1, h2, h3⟩

theorem cut_reads (v : Value) (l : List Nat) (w : World) (hz : l.length ≤ 1000000) (hd : ∀ d ∈ l, d < 65536) (h : Reads32 w v l) :
    Calls Tryz.prog 57 #[v] w fun e w' => ∃ v, e = .returned v ∧ IsN w' v (val l) ∧ Below w.heap.size w w' := by
  rcases h with ⟨rfl, ad, cap, rfl⟩ | ⟨b, off, cap, rfl, hcap, hc⟩
  · go_enter Tryz.func57, Tryz.ntmps57
    go_wp2_with fail
    refine wp_loop_rounds 1 ?_
    rw [rounds_succ]
    go_wp2_with fail
    go_ret
    exact ⟨_, rfl, .inl ⟨dg_zero, _, _, rfl⟩, Below.refl _ _⟩
  · exact cut_some b off cap l w hz hcap hd hc
end Go.Proofs.YtdijkobiffhgcaaGreatDoor.Nu

namespace Go.Proofs.YtdijkobiffhgcaaGreatDoor.Nu
open Go.RowKit Go.Lib

/-- c is below 0, 0, above 0 as X is below Y, Y, above Y. -/
def CmpIs (c : Int) (X Y : Nat) : Prop := (c < 0 ↔ X < Y) ∧ (c = 0 ↔ X = Y)

def CmpEnds (X Y : Nat) (w : World) (e : Ending) (w' : World) : Prop := ∃ c, e = .returned (.int .i64 c) ∧ CmpIs c X Y ∧ ∃ q, w' = w.drewN q

set_option maxRecDepth 100000 in
set_option maxHeartbeats 1000000 in
theorem cmp_len (ad bd : Option Addr) (ca cb : Nat) (la lb X Y : Nat) (w : World) (h : la ≠ lb) (h1 : la < lb → X < Y) (h2 : lb < la → Y < X) (hza : la ≤ 1000000) (hzb : lb ≤ 1000000) :
    Calls Tryz.prog 40 #[.slice ad la ca, .slice bd lb cb] w (CmpEnds X Y w) := by
  have h' : ((la : Int) != lb) = true := by rw [bne_iff_ne]; omega
  have hs : IntKind.i64.wrap ((la : Int) - lb) = (la : Int) - lb := IntWalk.i64_in _ (by omega)
  have H : Hid (CmpIs ((la : Int) - lb) X Y) := hideIt (by unfold CmpIs; constructor <;> omega)
  clear h1 h2 h
  go_enter Tryz.func40, Tryz.ntmps40
  go_wp2_with fail
  go_ret
  exact ⟨_, rfl, H.out, 0, rfl⟩

set_option maxRecDepth 100000 in
set_option maxHeartbeats 1000000 in
theorem cmp_none (ad bd : Option Addr) (ca cb : Nat) (w : World) :
    Calls Tryz.prog 40 #[.slice ad 0 ca, .slice bd 0 cb] w (CmpEnds 0 0 w) := by
  have hs : IntKind.i64.wrap ((0 : Int) - 1) = -1 := by decide
  go_enter Tryz.func40, Tryz.ntmps40
  go_wp2_with fail
  refine wp_loop_rounds 1 ?_
  rw [rounds_succ]
  go_wp2_with fail
  go_ret
  exact ⟨0, rfl, ⟨by omega, by omega⟩, 0, rfl⟩

set_option maxRecDepth 100000 in
set_option maxHeartbeats 2000000 in
theorem cmp_full (a oa ca b ob cb : Nat) (za zb : List Nat) (w : World) (hl : zb.length = za.length) (hz : za.length ≤ 1000000) (hda : ∀ d ∈ za, d < 65536) (hdb : ∀ d ∈ zb, d < 65536)
    (hca : ∀ j, j < za.length → w.cell? ⟨a, oa + j, none⟩ = some (.int .u32 (za.getD j 0 : Nat)))
    (hcb : ∀ j, j < za.length → w.cell? ⟨b, ob + j, none⟩ = some (.int .u32 (zb.getD j 0 : Nat))) :
    Calls Tryz.prog 40 #[.slice (some ⟨a, oa, none⟩) za.length ca, .slice (some ⟨b, ob, none⟩) za.length cb] w (CmpEnds (val za) (val zb) w) := by
  have HA := hideIt hca
  have HB := hideIt hcb
  have DA := hideIt hda
  have DB := hideIt hdb
  have s0 : IntKind.i64.wrap ((za.length : Int) - 1) = (za.length : Int) - 1 := IntWalk.i64_in _ (by omega)
  clear hca hcb hda hdb
  go_enter Tryz.func40, Tryz.ntmps40
  go_wp2_with fail
  go_loopw [5] (fun i wr => ∃ k : Nat, k ≤ za.length ∧ i = .int .i64 ((k : Int) - 1) ∧ (∀ j, k ≤ j → j < za.length → za.getD j 0 = zb.getD j 0) ∧ ∃ q, wr = w.drewN q) (fun i _ => (RowKit.intOf i + 1).toNat)
  case atStart => exact ⟨za.length, Nat.le_refl _, rfl, fun j h1 h2 => absurd h2 (by omega), 0, rfl⟩
  case round =>
    obtain ⟨k, hk, rfl, heq, q, rfl⟩ := hrel
    have Heq := hideIt heq
    clear heq
    by_cases h0 : k = 0
    · subst h0
      have hv : val za = val zb := by rw [val_eq_at za zb (by omega) (fun j hj => Heq.out j (Nat.zero_le _) hj)]
      have hk' : ¬ ((0 : Int) ≤ ((0 : Nat) : Int) - 1) := by omega
      have Hv := hideIt hv
      clear hv
      go_wp2_with fail
      go_ret
      exact ⟨0, rfl, ⟨by have := Hv.out; omega, by have := Hv.out; omega⟩, _, rfl⟩
    · obtain ⟨m, rfl⟩ : ∃ m, k = m + 1 := ⟨k - 1, by omega⟩
      have hm : m < za.length := by omega
      have e1 : (((m + 1 : Nat) : Int) - 1) = (m : Int) := by omega
      have c1 := HA.out m hm
      have c2 := HB.out m hm
      obtain ⟨U, hU⟩ : ∃ U, za.getD m 0 = U := ⟨_, rfl⟩
      obtain ⟨V, hV⟩ : ∃ V, zb.getD m 0 = V := ⟨_, rfl⟩
      have hUl : (U : Int) < 65536 := by
        have := DA.out U (by rw [← hU]; simp [List.getD, List.getElem?_eq_getElem hm])
        omega
      have hVl : (V : Int) < 65536 := by
        have := DB.out V (by rw [← hV]; simp [List.getD, List.getElem?_eq_getElem (show m < zb.length by omega)])
        omega
      rw [hU] at c1
      rw [hV] at c2
      have HU := hideIt hU
      have HV := hideIt hV
      rw [e1]
      clear hU hV e1
      by_cases hUV : U = V
      · have hb : ((U : Int) != V) = false := by simp [hUV]
        have HUV := hideIt hUV
        clear hUV hUl hVl
        go_wp2
        go_quiet (fail)
        go_wp2
        refine ⟨⟨m, by omega, rfl, ?_, _, rfl⟩, by simp [RowKit.intOf]⟩
        intro j h1 h2
        rcases Nat.lt_or_ge m j with h | h
        · exact Heq.out j h h2
        · obtain rfl : j = m := by omega
          rw [HU.out, HV.out]; exact HUV.out
      · have hb : ((U : Int) != V) = true := by simp; omega
        have w1 : IntKind.i64.wrap (U : Int) = U := IntWalk.i64_in _ (by omega)
        have w2 : IntKind.i64.wrap (V : Int) = V := IntWalk.i64_in _ (by omega)
        have w3 : IntKind.i64.wrap ((U : Int) - V) = (U : Int) - V := IntWalk.i64_in _ (by omega)
        have HI : Hid (CmpIs ((U : Int) - V) (val za) (val zb)) := hideIt (by
          have a1 := val_lt_at za zb m DA.out hm (by omega) (fun j h1 h2 => Heq.out j h1 h2)
          have a2 := val_lt_at zb za m DB.out (by omega) (by omega) (fun j h1 h2 => (Heq.out j h1 (by omega)).symm)
          rw [HU.out, HV.out] at a1 a2
          unfold CmpIs
          rcases Nat.lt_or_ge U V with h | h
          · have := a1 h
            constructor <;> omega
          · have := a2 (by omega)
            constructor <;> omega)
        clear hUV hUl hVl
        go_wp2
        go_quiet (fail)
        go_wp2
        go_quiet (fail)
        go_wp2
        go_ret
        exact ⟨_, rfl, HI.out, _, by rw [World.drewN_drewN, World.drewN_drewN]⟩

theorem Reads32.shape {w : World} {v : Value} {zs : List Nat} (h : Reads32 w v zs) : ∃ ad cap, v = .slice ad zs.length cap := by
  rcases h with ⟨rfl, ad, cap, rfl⟩ | ⟨b, off, cap, rfl, _⟩
  · exact ⟨_, _, rfl⟩
  · exact ⟨_, _, rfl⟩

theorem cmp_any (va vb : Value) (X Y : Nat) (w : World) (hx : (dg X).length ≤ 1000000) (hy : (dg Y).length ≤ 1000000) (ha : IsN w va X) (hb : IsN w vb Y) :
    Calls Tryz.prog 40 #[va, vb] w (CmpEnds X Y w) := by
  by_cases hl : (dg Y).length = (dg X).length
  · unfold IsN at ha hb
    rcases ha with ⟨h0, ad, ca, rfl⟩ | ⟨a, oa, ca, rfl, _, hca⟩
    · obtain ⟨bd, cb, rfl⟩ := Reads32.shape hb
      rw [h0] at hl
      rw [hl]
      have e1 := (dg_nil X).1 h0
      have e2 := (dg_nil Y).1 (List.eq_nil_of_length_eq_zero hl)
      subst e1; subst e2
      exact cmp_none ad bd ca cb w
    · rcases hb with ⟨h0, bd, cb, rfl⟩ | ⟨b, ob, cb, rfl, _, hcb⟩
      · rw [h0] at hl
        rw [← hl]
        have e2 := (dg_nil Y).1 h0
        have e1 := (dg_nil X).1 (List.eq_nil_of_length_eq_zero hl.symm)
        subst e1; subst e2
        exact cmp_none _ bd ca cb w
      · rw [hl] at hcb ⊢
        have := cmp_full a oa ca b ob cb (dg X) (dg Y) w hl hx (dg_digit X) (dg_digit Y) hca hcb
        rwa [val_dg, val_dg] at this
  · obtain ⟨ad, ca, rfl⟩ := Reads32.shape ha
    obtain ⟨bd, cb, rfl⟩ := Reads32.shape hb
    refine cmp_len ad bd ca cb _ _ X Y w (fun h => hl h.symm) (fun h => ?_) (fun h => ?_) hx hy
    · rcases Nat.lt_or_ge X Y with h' | h'
      · exact h'
      · have := dg_mono Y X h'; omega
    · rcases Nat.lt_or_ge Y X with h' | h'
      · exact h'
      · have := dg_mono X Y h'; omega
end Go.Proofs.YtdijkobiffhgcaaGreatDoor.Nu

namespace Go.Proofs.YtdijkobiffhgcaaGreatDoor.Nu
open Go.RowKit Go.Lib

/-- where a slice's digits lie. -/
def RdAt (w : World) (ad : Option Addr) (l : List Nat) : Prop := ∀ j, j < l.length → ∃ b off, ad = some ⟨b, off, none⟩ ∧ w.cell? ⟨b, off + j, none⟩ = some (.int .u32 (l.getD j 0 : Nat))

theorem Reads32.at {w : World} {v : Value} {zs : List Nat} (h : Reads32 w v zs) : ∃ ad cap, v = .slice ad zs.length cap ∧ RdAt w ad zs := by
  rcases h with ⟨rfl, ad, cap, rfl⟩ | ⟨b, off, cap, rfl, _, hc⟩
  · exact ⟨_, _, rfl, fun j hj => absurd hj (by simp)⟩
  · exact ⟨_, _, rfl, fun j hj => ⟨b, off, rfl, hc j hj⟩⟩

/-- the sum, i digits told. -/
structure AddAt (a b acc : List Nat) (i c : Nat) : Prop where
  len : acc.length = i
  dig : ∀ d ∈ acc, d < 65536
  carry : c ≤ 1
  eq : val acc + 65536 ^ i * (c + val (a.drop i) + val (b.drop i)) = val a + val b

theorem val_drop (a : List Nat) (i : Nat) (h : i < a.length) : val (a.drop i) = a.getD i 0 + 65536 * val (a.drop (i + 1)) := by
  rw [List.drop_eq_getElem_cons h]
  simp [val, List.getD, List.getElem?_eq_getElem h]
theorem val_drop_end (a : List Nat) (i : Nat) (h : a.length ≤ i) : val (a.drop i) = 0 := by rw [List.drop_eq_nil_of_le h]; rfl
theorem getD_end (a : List Nat) (i : Nat) (h : a.length ≤ i) : a.getD i 0 = 0 := by simp [List.getD, List.getElem?_eq_none h]
theorem getD_lt (a : List Nat) (h : ∀ d ∈ a, d < 65536) (i : Nat) : a.getD i 0 < 65536 := by
  rcases Nat.lt_or_ge i a.length with hi | hi
  · exact h _ (by simp [List.getD, List.getElem?_eq_getElem hi])
  · rw [getD_end a i hi]; omega
theorem val_drop' (a : List Nat) (i : Nat) : val (a.drop i) = a.getD i 0 + 65536 * val (a.drop (i + 1)) := by
  rcases Nat.lt_or_ge i a.length with hi | hi
  · exact val_drop a i hi
  · rw [val_drop_end a i hi, val_drop_end a (i + 1) (by omega), getD_end a i hi]

theorem AddAt.start (a b : List Nat) : AddAt a b [] 0 0 := ⟨rfl, fun d h => (by cases h), by omega, by simp [val]⟩
theorem AddAt.step {a b acc : List Nat} {i c : Nat} (h : AddAt a b acc i c) (ha : ∀ d ∈ a, d < 65536) (hb : ∀ d ∈ b, d < 65536) (x : Nat) (hx : x = c + a.getD i 0 + b.getD i 0) :
    AddAt a b (acc ++ [x % 65536]) (i + 1) (x / 65536) := by
  have h1 := getD_lt a ha i
  have h2 := getD_lt b hb i
  have hc := h.carry
  refine ⟨by simp [h.len], ?_, by omega, ?_⟩
  · intro d hd
    rcases List.mem_append.1 hd with hd | hd
    · exact h.dig d hd
    · simp at hd; omega
  · rw [← h.eq, val_append, h.len, Nat.pow_succ, val_drop' a i, val_drop' b i, Nat.add_assoc, Nat.mul_assoc, ← Nat.mul_add]
    congr 2
    show x % 65536 + 65536 * 0 + 65536 * (x / 65536 + val (a.drop (i + 1)) + val (b.drop (i + 1))) = _
    omega
theorem AddAt.done {a b acc : List Nat} {i : Nat} (h : AddAt a b acc i 0) (h1 : a.length ≤ i) (h2 : b.length ≤ i) : val acc = val a + val b := by
  have := h.eq
  rw [val_drop_end a i h1, val_drop_end b i h2] at this
  simpa using this
end Go.Proofs.YtdijkobiffhgcaaGreatDoor.Nu
