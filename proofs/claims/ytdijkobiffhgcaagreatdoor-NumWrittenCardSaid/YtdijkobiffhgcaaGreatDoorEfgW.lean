/-
  strconv's fmtEFG at 'e', shortest: how digits and a point are laid as text. Conditions: at most 20 digits; the exponent within 999.
-/
import Derived.Test.YtdijkobiffhgcaaGreatDoorDigW
import Derived.Deep.DeepCutAuto
import Derived.Laws.BitsAllLaws
namespace Go.Proofs.YtdijkobiffhgcaaGreatDoor.Nu
open Go.RowKit Go.Lib

/-- the text being made, the buffer of digits beside it. -/
structure Dst (w0 : World) (B0 Bs : Nat) (c : Array Value) (T : TypeId) (wr : World) (v : Value) (acc : List UInt8) : Prop where
  own : wr.ownsRow B0 5 1 v acc.length (byteCells acc)
  below : Below B0 w0 wr
  buf : wr.heap[Bs]? = some (.cells c T (0, 0))
  ne : T ≠ 5
  base : B0 ≤ wr.heap.size
  len : acc.length ≤ 60

theorem bytes_one (l : List UInt8) : ∀ u ∈ byteCells l, u.oneCell' = true := by
  intro u hu
  simp only [byteCells, List.mem_map] at hu
  obtain ⟨b, _, rfl⟩ := hu
  rfl

theorem Dst.other {w0 wr : World} {B0 Bs : Nat} {c : Array Value} {T : TypeId} {v : Value} {acc : List UInt8} (h : Dst w0 B0 Bs c T wr v acc) : some Bs ≠ v.ownBlock := by
  intro hv
  rcases h.own.2 with ⟨rfl, _⟩ | ⟨g, cap, cur, rfl, _, hg, _⟩
  · cases hv
  · have : Bs = g := by simpa [Value.ownBlock] using hv
    subst this
    have := h.buf
    rw [hg] at this
    cases this
    exact h.ne rfl

theorem Dst.lt {w0 wr : World} {B0 Bs : Nat} {c : Array Value} {T : TypeId} {v : Value} {acc : List UInt8} (h : Dst w0 B0 Bs c T wr v acc) : Bs < wr.heap.size := (Array.getElem?_eq_some_iff.1 h.buf).1

theorem Dst.step {w0 wr w1 : World} {B0 Bs m : Nat} {c : Array Value} {T : TypeId} {v v' : Value} {acc zs : List UInt8} {o : Obj} (h : Dst w0 B0 Bs c T wr v acc) (hm : zs.length = m)
    (hown : w1.ownsRow B0 5 1 v' (acc.length + m) (byteCells acc ++ byteCells zs)) (hg : (wr.alloc o).grownBy w1 v.ownBlock) (hl : acc.length + zs.length ≤ 60 := by simp) : Dst w0 B0 Bs c T w1 v' (acc ++ zs) := by
  have hb := below_step h.below h.base h.own hg
  refine ⟨owns_step8 hm hown, hb, ?_, h.ne, ?_, by rw [List.length_append]; exact hl⟩
  · have hlt := h.lt
    have := hg.block Bs (by simp; omega) h.other
    rw [this]
    have hb : (wr.alloc o).heap[Bs]? = wr.heap[Bs]? := ((Below.refl wr.heap.size wr).alloc (Nat.le_refl _) o).block Bs hlt
    rw [hb]; exact h.buf
  · have := hg.size
    have hs : (wr.alloc o).heap.size = wr.heap.size + 1 := by simp
    have := h.base
    omega
theorem Dst.step0 {w0 wr w1 : World} {B0 Bs m : Nat} {c : Array Value} {T : TypeId} {v v' : Value} {acc zs : List UInt8} (h : Dst w0 B0 Bs c T wr v acc) (hm : zs.length = m)
    (hown : w1.ownsRow B0 5 1 v' (acc.length + m) (byteCells acc ++ byteCells zs)) (hg : wr.grownBy w1 v.ownBlock) (hl : acc.length + zs.length ≤ 60) : Dst w0 B0 Bs c T w1 v' (acc ++ zs) := by
  refine ⟨owns_step8 hm hown, h.below.grown hg h.base (fun j hj => (h.own.lt j hj).1), ?_, h.ne, ?_, by rw [List.length_append]; exact hl⟩
  · rw [hg.block Bs h.lt h.other]; exact h.buf
  · have := hg.size
    have := h.base
    omega

theorem addr_add_at (g o j : Nat) : (⟨g, o, none⟩ : Addr).add j = ⟨g, o + j, none⟩ := by unfold Addr.add; split <;> simp_all
theorem drop_news (l : List UInt8) (Bs : Nat) (w : World) (hc : ∀ j, j < l.length → w.cell? ⟨Bs, j, none⟩ = some (.int .u8 ((l.getD j 0).toNat : Int))) :
    ∀ j u, (byteCells (l.drop 1))[j]? = some u → w.cell? ((⟨Bs, 1, none⟩ : Addr).add j) = some u := by
  intro j u hj
  rw [addr_add_at, Nat.add_comm]
  match l with
  | [] => cases hj
  | y :: r =>
    have hr : (byteCells r)[j]? = some u := hj
    unfold byteCells at hr
    rw [List.getElem?_map] at hr
    cases hq : r[j]? with
    | none => rw [hq] at hr; cases hr
    | some b =>
      rw [hq] at hr
      have hlt : j < r.length := (List.getElem?_eq_some_iff.1 hq).1
      rw [hc (j + 1) (by simpa using hlt)]
      have hg : (y :: r).getD (j + 1) 0 = b := by
        show r.getD j 0 = b
        rw [List.getD, hq]; rfl
      rw [hg]
      exact hr

/-- the exponent's digits: at least two. -/
def expDig (x : Nat) : List UInt8 :=
  if x < 10 then [48, UInt8.ofNat (48 + x)] else if x < 100 then [UInt8.ofNat (48 + x / 10), UInt8.ofNat (48 + x % 10)] else [UInt8.ofNat (48 + x / 100), UInt8.ofNat (48 + x / 10 % 10), UInt8.ofNat (48 + x % 10)]
def eText (l : List UInt8) (x : Int) : List UInt8 :=
  (if l.length ≤ 1 then l else l.take 1 ++ 46 :: l.drop 1) ++ 101 :: (if x < 0 then 45 else 43) :: expDig x.natAbs


set_option maxRecDepth 100000 in
set_option maxHeartbeats 16000000 in
theorem efg_any (v : Value) (B0 Bs cs : Nat) (c : Array Value) (T : TypeId) (l : List UInt8) (x : Int) (w : World) (h0 : Dst w B0 Bs c T w v []) (hl : 0 < l.length) (hl2 : l.length ≤ 20) (hcs : l.length ≤ cs) (hx : -999 ≤ x ∧ x ≤ 999)
    (hc : ∀ j, j < l.length → w.cell? ⟨Bs, j, none⟩ = some (.int .u8 ((l.getD j 0).toNat : Int))) :
    Calls Tryz.prog 90 #[v, .bool false, .slice (some ⟨Bs, 0, none⟩) cs cs, .int .i64 (x + 1), .int .i64 (l.length : Int), .int .i64 ((l.length : Int) - 1), .int .u8 101, .bool true] w fun r w' =>
      ∃ v' , r = .returned v' ∧ Dst w B0 Bs c T w' v' (eText l x) := by
  obtain ⟨i0, hi, hz0, hz1, hz2⟩ := info_parts info5
  obtain ⟨k, hk⟩ : ∃ k, l.length = k := ⟨_, rfl⟩
  rw [hk] at hl hl2 hcs hc ⊢
  obtain ⟨f, hf⟩ : ∃ f, l.getD 0 0 = f := ⟨_, rfl⟩
  have hc0 : w.cell? ⟨Bs, 0, none⟩ = some (.int .u8 (f.toNat : Int)) := by rw [← hf]; exact hc 0 hl
  have hne : ((k : Int) != 0) = true := by rw [bne_iff_ne]; omega
  have HC := hideIt hc
  have HK := hideIt hk
  have HF := hideIt hf
  have hcell : ∀ wr : World, wr.heap[Bs]? = some (.cells c T (0, 0)) → ∀ j, wr.cell? ⟨Bs, j, none⟩ = w.cell? ⟨Bs, j, none⟩ := fun wr hb j => by
    have := h0.buf
    simp only [World.cell?, hb, this]
  have HCELL := hideIt hcell
  obtain ⟨k1, hk1⟩ : ∃ k1 : Int, (k : Int) - 1 = k1 := ⟨_, rfl⟩
  have kb : 0 ≤ k1 ∧ k1 ≤ 19 := by omega
  have HK1 := hideIt hk1
  rw [hk1]
  clear hk hf hc hcell hk1
  go_enter Tryz.func90, Tryz.ntmps90
  go_wp2_with (at_builtin; refine wpList_append_own _ rfl _ _ 53 rfl B0 5 i0 (.int .u8 0) 1 1 Tryz.underlying53 hi hz0 hz1 hz2 rfl (by decide) _ _ _ rfl (h0.own.alloc _) ⟨w.heap.size, 0, none⟩ 1 1 (byteCells [f]) rfl rfl ?c1 ?c2 ?c3 ?c4 ?c5 ?_)
  case c1 => first | exact cells_new _ _ _ | exact fun j u h => h
  case c2 => exact bytes_one _
  case c3 => have := h0.len; unfold maxLen; omega
  case c4 => have := h0.len; omega
  case c5 => have := h0.base; simp; omega
  intro v' w' hown' hgrow _
  have d1 := h0.step (zs := [f]) rfl hown' hgrow (by simp)
  clear hown' hgrow h0
  obtain ⟨mt, hmt⟩ : ∃ mt, (if l.length ≤ 1 then l else l.take 1 ++ 46 :: l.drop 1) = mt := ⟨_, rfl⟩
  have HMT := hideIt hmt
  clear hmt
  go_upto_if 92 with (fail)
  go_cut [0, 20, 21] (fun dv _ _ wx => Dst w B0 Bs c T wx dv mt)
  case first =>
    by_cases k1' : k ≤ 1
    · have e1 : k1 = 0 := by have := HK1.out; omega
      subst e1
      have hm : mt = [] ++ [f] := by
        rw [← HMT.out, if_pos (by rw [HK.out]; exact k1'), ← HF.out]
        match l, HK.out with
        | [y], _ => rfl
        | [], h => exact absurd h (by simp; omega)
        | y :: z :: r, h => exact absurd h (by simp; omega)
      go_wp2_with fail
      go_meet
      rw [hm]; exact d1
    · have e1 : k1 + 1 = (k : Int) := by have := HK1.out; omega
      have e2 : 0 < k1 := by omega
      have e3 : (1 : Int) < (k : Int) := by omega
      go_wp2_with (at_builtin; refine wpList_append_own _ rfl _ _ 53 rfl B0 5 i0 (.int .u8 0) 1 1 Tryz.underlying53 hi hz0 hz1 hz2 rfl (by decide) _ _ _ rfl (d1.own.alloc _) ⟨w'.heap.size, 0, none⟩ 1 1 (byteCells [46]) rfl rfl ?c1 ?c2 ?c3 ?c4 ?c5 ?_)
      case c1 => first | exact cells_new _ _ _ | exact fun j u h => h
      case c2 => exact bytes_one _
      case c3 => have := d1.len; unfold maxLen; omega
      case c4 => have := d1.len; omega
      case c5 => have := d1.base; simp; omega
      intro v' w' hown' hgrow _
      have d2 := d1.step (zs := [46]) rfl hown' hgrow (by simp)
      clear hown' hgrow d1
      have hkc : 1 ≤ k ∧ k ≤ cs := by omega
      have hm : mt = ([] ++ [f] ++ [46]) ++ l.drop 1 := by
        rw [← HMT.out, if_neg (by rw [HK.out]; exact k1'), ← HF.out]
        match l, HK.out with
        | y :: r, _ => rfl
        | [], h => exact absurd h (by simp; omega)
      obtain ⟨rest, hrest⟩ : ∃ rest, l.drop 1 = rest := ⟨_, rfl⟩
      have hdl : rest.length = k - 1 := by rw [← hrest, List.length_drop, HK.out]
      have hnews : ∀ j u, (byteCells rest)[j]? = some u → w'.cell? ((⟨Bs, 1, none⟩ : Addr).add j) = some u := by
        rw [← hrest]
        exact drop_news l Bs w' (fun j hj => by rw [HCELL.out _ d2.buf]; exact HC.out j (by have := HK.out; omega))
      rw [hrest] at hm
      have HDL := hideIt hdl
      have HNEWS := hideIt hnews
      clear hdl hnews hrest
      go_wp2_with (at_builtin; refine wpList_append_own _ rfl _ _ 53 rfl B0 5 i0 (.int .u8 0) 1 1 Tryz.underlying53 hi hz0 hz1 hz2 rfl (by decide) _ _ _ rfl d2.own ⟨Bs, 1, none⟩ (k - 1) (cs - 1) (byteCells rest) rfl ?c0 ?c1 ?c2 ?c3 ?c4 ?c5 ?_)
      case c0 => rw [byteCells_length, HDL.out, Nat.mul_one]
      case c1 => exact HNEWS.out
      case c2 => exact bytes_one _
      case c3 => have := d2.len; unfold maxLen; omega
      case c4 => have := d2.len; omega
      case c5 => exact d2.base
      intro v' w' hown' hgrow _
      have d3 := d2.step0 (zs := rest) HDL.out hown' hgrow (by rw [HDL.out]; simp; omega)
      clear hown' hgrow d2
      have e4 : k1 + 1 - (k : Int) = 0 := by omega
      have HE1 := hideIt e1
      go_wp2_with fail
      refine wp_loop_rounds 1 ?_
      rw [rounds_succ]
      go_wp2_with fail
      go_meet
      rw [hm]; exact d3
  case rest =>
    have d3 := hcut
    clear hcut
    have hml : mt.length ≤ 21 := by
      have := HMT.out
      rw [← this]
      have := HK.out
      split
      · omega
      · rw [List.length_append, List.length_cons, List.length_take, List.length_drop]; omega
    have HML := hideIt hml
    clear hml
    have x1 : x + 1 - 1 = x := by omega
    have kn : ((k : Int) == 0) = false := by rw [beq_eq_false_iff_ne]; omega
    obtain ⟨a, ha⟩ : ∃ a : Nat, x.natAbs = a := ⟨_, rfl⟩
    obtain ⟨ai, hai⟩ : ∃ ai : Int, (a : Int) = ai := ⟨_, rfl⟩
    have hab : 0 ≤ ai ∧ ai ≤ 999 := by omega
    obtain ⟨sg, hsg⟩ : ∃ sg : UInt8, (if x < 0 then 45 else 43) = sg := ⟨_, rfl⟩
    have HA := hideIt ha
    have HAI := hideIt hai
    have HSG := hideIt hsg
    clear ha hai hsg
    go_wp2_with (at_builtin; refine wpList_append_own _ rfl _ _ 53 rfl B0 5 i0 (.int .u8 0) 1 1 Tryz.underlying53 hi hz0 hz1 hz2 rfl (by decide) _ _ _ rfl (d3.own.alloc _) ⟨wc.heap.size, 0, none⟩ 1 1 (byteCells [101]) rfl rfl ?c1 ?c2 ?c3 ?c4 ?c5 ?_)
    case c1 => first | exact cells_new _ _ _ | exact fun j u h => h
    case c2 => exact bytes_one _
    case c3 => have := d3.len; unfold maxLen; omega
    case c4 => have := d3.len; omega
    case c5 => have := d3.base; simp; omega
    intro v' w' hown' hgrow _
    have d4 := d3.step (zs := [101]) rfl hown' hgrow (by have := HML.out; simp; omega)
    clear hown' hgrow d3
    obtain ⟨Ad4, hA⟩ : ∃ q, mt ++ [101] = q := ⟨_, rfl⟩
    rw [hA] at d4
    have HAd4 := hideIt hA
    clear hA
    go_upto_if 129 with (fail)
    go_cut [19, 22] (fun ch ev wx => ch = .int .u8 (sg.toNat : Int) ∧ ev = .int .i64 ai ∧ wx = w')
    case first =>
      by_cases hn : x < 0
      · have e1 : sg = 45 := by rw [← HSG.out, if_pos hn]
        have e2 : wrap64 (-x) = ai := by rw [IntWalk.wrap64_in _ (by omega)]; have := HA.out; have := HAI.out; omega
        subst e1
        go_wp2_with fail
        go_meet
        have e3 : -x = ai := by have := HA.out; have := HAI.out; omega
        exact ⟨rfl, by first | rfl | rw [e2] | rw [e3], rfl⟩
      · have e1 : sg = 43 := by rw [← HSG.out, if_neg hn]
        have e2 : x = ai := by have := HA.out; have := HAI.out; omega
        subst e1
        subst e2
        go_wp2_with fail
        go_meet
        exact ⟨rfl, rfl, rfl⟩
    case rest =>
      obtain ⟨rfl, rfl, hwc⟩ := hcut
      rw [hwc]
      clear hwc
      go_wp2_with (at_builtin; refine wpList_append_own _ rfl _ _ 53 rfl B0 5 i0 (.int .u8 0) 1 1 Tryz.underlying53 hi hz0 hz1 hz2 rfl (by decide) _ _ _ rfl (d4.own.alloc _) ⟨w'.heap.size, 0, none⟩ 1 1 (byteCells [sg]) rfl rfl ?c1 ?c2 ?c3 ?c4 ?c5 ?_)
      case c1 => first | exact cells_new _ _ _ | exact fun j u h => h
      case c2 => exact bytes_one _
      case c3 => have := d4.len; unfold maxLen; omega
      case c4 => have := d4.len; omega
      case c5 => have := d4.base; simp; omega
      intro v' w' hown' hgrow _
      have d5 := d4.step (zs := [sg]) rfl hown' hgrow (by have := HML.out; rw [← HAd4.out]; simp; omega)
      clear hown' hgrow d4
      obtain ⟨Ad5, hA⟩ : ∃ q, Ad4 ++ [sg] = q := ⟨_, rfl⟩
      rw [hA] at d5
      have HAd5 := hideIt hA
      clear hA
      have dgt : ∀ d : Nat, d < 10 → ((UInt8.ofNat (48 + d)).toNat : Int) = (d : Int) + 48 := fun d hd => by
        have : (UInt8.ofNat (48 + d)).toNat = 48 + d := by simp; omega
        rw [this]; omega
      have DGT := hideIt dgt
      have w8 : ∀ z : Int, 0 ≤ z → z < 256 → IntKind.u8.wrap z = z := fun z h0 h1 => by
        rw [IntKind.wrap_u8']; exact Int.emod_eq_of_lt h0 h1
      have W8 := hideIt w8
      clear dgt w8
      have fin : ∀ D, expDig a = D → ([] : List UInt8) ++ eText l x = Ad5 ++ D := fun D hD => by
        rw [← HAd5.out, ← HAd4.out]
        unfold eText
        rw [HMT.out, HSG.out, HA.out, hD]
        simp
      have FIN := hideIt fin
      clear fin
      by_cases t1 : ai < 10
      · have hD : expDig a = [48, UInt8.ofNat (48 + a)] := by unfold expDig; rw [if_pos (by have := HAI.out; omega)]
        obtain ⟨b1, hb1⟩ : ∃ b1, UInt8.ofNat (48 + a) = b1 := ⟨_, rfl⟩
        have v1 : (b1.toNat : Int) = ai + 48 := by rw [← hb1, DGT.out a (by have := HAI.out; omega), HAI.out]
        rw [hb1] at hD
        have g1 : IntKind.u8.wrap ai = ai := W8.out _ (by omega) (by omega)
        have g2 : IntKind.u8.wrap (ai + 48) = (b1.toNat : Int) := by rw [v1]; exact W8.out _ (by omega) (by omega)
        have HD := hideIt hD
        clear hD hb1 v1
        go_wp2_with (at_builtin; refine wpList_append_own _ rfl _ _ 53 rfl B0 5 i0 (.int .u8 0) 1 1 Tryz.underlying53 hi hz0 hz1 hz2 rfl (by decide) _ _ _ rfl (d5.own.alloc _) ⟨w'.heap.size, 0, none⟩ 2 2 (byteCells [48, b1]) rfl rfl ?c1 ?c2 ?c3 ?c4 ?c5 ?_)
        case c1 => first | exact cells_new _ _ _ | exact fun j u h => h
        case c2 => exact bytes_one _
        case c3 => have := d5.len; unfold maxLen; omega
        case c4 => have := d5.len; omega
        case c5 => have := d5.base; simp; omega
        intro v' w' hown' hgrow _
        have d6 := d5.step (zs := [48, b1]) rfl hown' hgrow (by have := HML.out; rw [← HAd5.out, ← HAd4.out]; simp; omega)
        clear hown' hgrow d5
        go_wp2_with fail
        go_ret
        exact ⟨_, rfl, by have := FIN.out _ HD.out; rw [List.nil_append] at this; rw [this]; exact d6⟩
      · by_cases t2 : ai < 100
        · have hD : expDig a = [UInt8.ofNat (48 + a / 10), UInt8.ofNat (48 + a % 10)] := by unfold expDig; rw [if_neg (by have := HAI.out; omega), if_pos (by have := HAI.out; omega)]
          obtain ⟨b1, hb1⟩ : ∃ b1, UInt8.ofNat (48 + a / 10) = b1 := ⟨_, rfl⟩
          obtain ⟨b2, hb2⟩ : ∃ b2, UInt8.ofNat (48 + a % 10) = b2 := ⟨_, rfl⟩
          have v1 : (b1.toNat : Int) = ai / 10 + 48 := by rw [← hb1, DGT.out (a / 10) (by have := HAI.out; omega)]; have := HAI.out; omega
          have v2 : (b2.toNat : Int) = ai % 10 + 48 := by rw [← hb2, DGT.out (a % 10) (by have := HAI.out; omega)]; have := HAI.out; omega
          rw [hb1, hb2] at hD
          have g1 : IntKind.u8.wrap (ai / 10) = ai / 10 := W8.out _ (by omega) (by omega)
          have g2 : IntKind.u8.wrap (ai / 10 + 48) = (b1.toNat : Int) := by rw [v1]; exact W8.out _ (by omega) (by omega)
          have g3 : IntKind.u8.wrap (ai % 10) = ai % 10 := W8.out _ (by omega) (by omega)
          have g4 : IntKind.u8.wrap (ai % 10 + 48) = (b2.toNat : Int) := by rw [v2]; exact W8.out _ (by omega) (by omega)
          have HD := hideIt hD
          clear hD hb1 hb2 v1 v2
          go_wp2_with (at_builtin; refine wpList_append_own _ rfl _ _ 53 rfl B0 5 i0 (.int .u8 0) 1 1 Tryz.underlying53 hi hz0 hz1 hz2 rfl (by decide) _ _ _ rfl (d5.own.alloc _) ⟨w'.heap.size, 0, none⟩ 2 2 (byteCells [b1, b2]) rfl rfl ?c1 ?c2 ?c3 ?c4 ?c5 ?_)
          case c1 => first | exact cells_new _ _ _ | exact fun j u h => h
          case c2 => exact bytes_one _
          case c3 => have := d5.len; unfold maxLen; omega
          case c4 => have := d5.len; omega
          case c5 => have := d5.base; simp; omega
          intro v' w' hown' hgrow _
          have d6 := d5.step (zs := [b1, b2]) rfl hown' hgrow (by have := HML.out; rw [← HAd5.out, ← HAd4.out]; simp; omega)
          clear hown' hgrow d5
          go_wp2_with fail
          go_ret
          exact ⟨_, rfl, by have := FIN.out _ HD.out; rw [List.nil_append] at this; rw [this]; exact d6⟩
        · have hD : expDig a = [UInt8.ofNat (48 + a / 100), UInt8.ofNat (48 + a / 10 % 10), UInt8.ofNat (48 + a % 10)] := by unfold expDig; rw [if_neg (by have := HAI.out; omega), if_neg (by have := HAI.out; omega)]
          obtain ⟨b1, hb1⟩ : ∃ b1, UInt8.ofNat (48 + a / 100) = b1 := ⟨_, rfl⟩
          obtain ⟨b2, hb2⟩ : ∃ b2, UInt8.ofNat (48 + a / 10 % 10) = b2 := ⟨_, rfl⟩
          obtain ⟨b3, hb3⟩ : ∃ b3, UInt8.ofNat (48 + a % 10) = b3 := ⟨_, rfl⟩
          have v1 : (b1.toNat : Int) = ai / 100 + 48 := by rw [← hb1, DGT.out (a / 100) (by have := HAI.out; omega)]; have := HAI.out; omega
          have v2 : (b2.toNat : Int) = ai / 10 % 10 + 48 := by rw [← hb2, DGT.out (a / 10 % 10) (by have := HAI.out; omega)]; have := HAI.out; omega
          have v3 : (b3.toNat : Int) = ai % 10 + 48 := by rw [← hb3, DGT.out (a % 10) (by have := HAI.out; omega)]; have := HAI.out; omega
          rw [hb1, hb2, hb3] at hD
          have g1 : IntKind.u8.wrap (ai / 100) = ai / 100 := W8.out _ (by omega) (by omega)
          have g2 : IntKind.u8.wrap (ai / 100 + 48) = (b1.toNat : Int) := by rw [v1]; exact W8.out _ (by omega) (by omega)
          have g3 : IntKind.u8.wrap (ai / 10) = ai / 10 := W8.out _ (by omega) (by omega)
          have g4 : IntKind.u8.wrap (ai / 10 % 10 + 48) = (b2.toNat : Int) := by rw [v2]; exact W8.out _ (by omega) (by omega)
          have g5 : IntKind.u8.wrap (ai % 10) = ai % 10 := W8.out _ (by omega) (by omega)
          have g6 : IntKind.u8.wrap (ai % 10 + 48) = (b3.toNat : Int) := by rw [v3]; exact W8.out _ (by omega) (by omega)
          have HD := hideIt hD
          clear hD hb1 hb2 hb3 v1 v2 v3
          go_wp2_with (at_builtin; refine wpList_append_own _ rfl _ _ 53 rfl B0 5 i0 (.int .u8 0) 1 1 Tryz.underlying53 hi hz0 hz1 hz2 rfl (by decide) _ _ _ rfl (d5.own.alloc _) ⟨w'.heap.size, 0, none⟩ 3 3 (byteCells [b1, b2, b3]) rfl rfl ?c1 ?c2 ?c3 ?c4 ?c5 ?_)
          case c1 => first | exact cells_new _ _ _ | exact fun j u h => h
          case c2 => exact bytes_one _
          case c3 => have := d5.len; unfold maxLen; omega
          case c4 => have := d5.len; omega
          case c5 => have := d5.base; simp; omega
          intro v' w' hown' hgrow _
          have d6 := d5.step (zs := [b1, b2, b3]) rfl hown' hgrow (by have := HML.out; rw [← HAd5.out, ← HAd4.out]; simp; omega)
          clear hown' hgrow d5
          go_wp2_with fail
          go_ret
          exact ⟨_, rfl, by have := FIN.out _ HD.out; rw [List.nil_append] at this; rw [this]; exact d6⟩

end Go.Proofs.YtdijkobiffhgcaaGreatDoor.Nu
