/-
  Memory: a row of bytes that the call owns read as a string; new cells. Over any program. Conditions: as each says.
-/
import Derived.Laws.IdiomStrings
import Derived.Laws.BytesArg
import Derived.Lib.RuneBytes
import Derived.WalkKit
import Derived.WalkSpells
import Derived.Test.YtdijkobiffhgcaaDoorPlain
namespace Go.Proofs.YtdijkobiffhgcaaDoor.Un
open Go.RowKit Go.Lib

theorem hideIt {p : Prop} (h : p) : Hid p := h

theorem below_draws {B : Nat} {a w : World} (h : Below B a w) (n : Nat) : Below B a (w.drewN n) := h.trans ⟨rfl, rfl, rfl, Nat.le_refl _, fun _ _ => rfl⟩

theorem addr_add (g j : Nat) : (⟨g, 0, none⟩ : Addr).add j = ⟨g, j, none⟩ := by unfold Addr.add; split <;> simp_all

/-- 'string(b)', b a row of bytes of the call's own (or nil). -/
theorem run_convert_row {P : Program} (w : World) (src dst e : TypeId) (hs : P.underlying src = some (.slice e)) (he : P.underlying e = some (.int .u8)) (hd : P.underlying dst = some .string)
    {B n : Nat} {v : Value} {l : List UInt8} (h : w.ownsRow B e 1 v n (byteCells l)) : (convert src dst v).run P w = .ok (.string ⟨l.toArray⟩) w := by
  have hn : l.length = n := by have := h.1; rw [byteCells_length] at this; omega
  rcases h.2 with ⟨rfl, h0⟩ | ⟨g, cap, cur, rfl, _, hg, _, _, _, htk⟩
  · obtain rfl : l = [] := List.eq_nil_of_length_eq_zero (by omega)
    exact run_convert_bytes_nil w src e hs he 0 0 dst hd
  · subst hn
    rw [Nat.mul_one] at htk
    refine run_convert_bytes_back w src dst e ⟨g, 0, none⟩ cap l hs he hd (fun j hj => ?_)
    rw [addr_add, cell_of_row w g j cur e (0, 0) hg]
    have : (cur.toList.take l.length)[j]? = (byteCells l)[j]? := by rw [htk]
    rw [List.getElem?_take_of_lt hj] at this
    simpa [byteCells, hj] using this

/-- New cells lie where they were laid. -/
theorem cells_new (w : World) (vs : List Value) (t : TypeId) : ∀ j u, vs[j]? = some u → (w.alloc (.cells vs.toArray t)).cell? ((⟨w.heap.size, 0, none⟩ : Addr).add j) = some u := by
  intro j u hj
  rw [addr_add, World.cell?_alloc_at _ _ _ _ rfl]
  simpa using hj

theorem grown_of_below {w w' : World} (h : Below w.heap.size w w') (row : Option Nat) : w.grownBy w' row := ⟨h.os, h.tape, h.output, h.size, fun k hk _ => h.block k hk⟩

theorem owns_below {w w' : World} {B : Nat} {e : TypeId} {size n : Nat} {v : Value} {xs : List Value} (h : w.ownsRow B e size v n xs) (hb : Below w.heap.size w w') : w'.ownsRow B e size v n xs :=
  h.kept (grown_of_below hb none) (by cases hv : v.ownBlock <;> simp)

theorem grown_drew {w w' : World} {row : Option Nat} (h : w.drew.grownBy w' row) : w.grownBy w' row := ⟨h.os, h.tape, h.output, h.size, h.block⟩

/-- the cells of numbers that are bytes. -/
def byteVals (zs : List Int) : List Value := zs.map (Value.int .u8)

theorem byteCells_toBytes (zs : List Int) (h : ∀ x ∈ zs, 0 ≤ x ∧ x < 256) : byteCells (toBytes zs) = byteVals zs := by
  simp only [byteCells, toBytes, byteVals, List.map_map]
  apply List.map_congr_left
  intro x hx
  obtain ⟨h0, h1⟩ := h x hx
  simp [Function.comp]
  omega

theorem owns_step {w : World} {B : Nat} {v : Value} {acc : List UInt8} {zs : List Int} {m : Nat} (hz : ∀ x ∈ zs, 0 ≤ x ∧ x < 256) (hm : zs.length = m)
    (h : w.ownsRow B 5 1 v (acc.length + m) (byteCells acc ++ byteVals zs)) : w.ownsRow B 5 1 v (acc ++ toBytes zs).length (byteCells (acc ++ toBytes zs)) := by
  rw [byteCells_append, byteCells_toBytes zs hz, List.length_append, toBytes_length, hm]
  exact h

theorem below_step {B : Nat} {w wr w1 : World} {e : TypeId} {size n : Nat} {v : Value} {xs : List Value} {o : Obj} (hnx : Below B w wr) (hB : B ≤ wr.heap.size) (hown : wr.ownsRow B e size v n xs)
    (hg : (wr.alloc o).grownBy w1 v.ownBlock) : Below B w w1 :=
  (hnx.alloc hB o).grown hg (by simp; omega) (fun j hj => (hown.lt j hj).1)

theorem textL_drop_one (zs : List Int) (k : Nat) (hk : k < zs.length) (h : ¬ (hiU (zs.getD k 0) = true ∧ k + 1 < zs.length ∧ loU (zs.getD (k + 1) 0) = true)) :
    textL (zs.drop k) = toBytes (oneZ (zs.getD k 0)) ++ textL (zs.drop (k + 1)) := by
  have e1 : zs.drop k = zs.getD k 0 :: zs.drop (k + 1) := by
    rw [List.drop_eq_getElem_cons hk]; simp [List.getD, List.getElem?_eq_getElem hk]
  rw [e1]
  unfold textL
  by_cases hk1 : k + 1 < zs.length
  · have e2 : zs.drop (k + 1) = zs.getD (k + 1) 0 :: zs.drop (k + 2) := by
      rw [List.drop_eq_getElem_cons hk1]; simp [List.getD, List.getElem?_eq_getElem hk1]
    rw [e2, textZ, if_neg (fun hh => h ⟨hh.1, hk1, hh.2⟩), toBytes_append]
  · rw [List.drop_eq_nil_of_le (by omega)]
    simp [textZ, toBytes]

theorem textL_drop_pair (zs : List Int) (k : Nat) (hk : k + 1 < zs.length) (h0 : hiU (zs.getD k 0) = true) (h1 : loU (zs.getD (k + 1) 0) = true) :
    textL (zs.drop k) = toBytes (encodeRuneZ (65536 + (zs.getD k 0 - 55296) * 1024 + (zs.getD (k + 1) 0 - 56320))) ++ textL (zs.drop (k + 2)) := by
  have e1 : zs.drop k = zs.getD k 0 :: zs.drop (k + 1) := by
    rw [List.drop_eq_getElem_cons (by omega)]; simp [List.getD, List.getElem?_eq_getElem (show k < zs.length by omega)]
  have e2 : zs.drop (k + 1) = zs.getD (k + 1) 0 :: zs.drop (k + 2) := by
    rw [List.drop_eq_getElem_cons hk]; simp [List.getD, List.getElem?_eq_getElem hk]
  rw [e1, e2]
  unfold textL
  rw [textZ, if_pos ⟨h0, h1⟩, toBytes_append]

end Go.Proofs.YtdijkobiffhgcaaDoor.Un
