/-
  Memory: a slice that reads as a whole number's digits; what a call grows. Over any program. Conditions: as each says.
-/
import Derived.Laws.IdiomStrings
import Derived.Laws.BytesArg
import Derived.Laws.Cover3
import Derived.Lib.RuneBytes
import Derived.WalkKit
import Derived.WalkSpells
import Derived.WalkLawsBesides
import Derived.Outline
import Derived.IntWalk
import Derived.Test.YtdijkobiffhgcaaGreatDoorChecked
import Derived.Test.YtdijkobiffhgcaaGreatDoorPlain
namespace Go.Proofs.YtdijkobiffhgcaaGreatDoor.Nu
open Go.RowKit Go.Lib

theorem hideIt {p : Prop} (h : p) : Hid p := h
theorem below_draws {B : Nat} {a w : World} (h : Below B a w) (n : Nat) : Below B a (w.drewN n) := h.trans ⟨rfl, rfl, rfl, Nat.le_refl _, fun _ _ => rfl⟩
theorem addr_add (g j : Nat) : (⟨g, 0, none⟩ : Addr).add j = ⟨g, j, none⟩ := by unfold Addr.add; split <;> simp_all
theorem cells_new (w : World) (vs : List Value) (t : TypeId) : ∀ j u, vs[j]? = some u → (w.alloc (.cells vs.toArray t)).cell? ((⟨w.heap.size, 0, none⟩ : Addr).add j) = some u := by
  intro j u hj
  rw [addr_add, World.cell?_alloc_at _ _ _ _ rfl]
  simpa using hj
theorem grown_of_below {w w' : World} (h : Below w.heap.size w w') (row : Option Nat) : w.grownBy w' row := ⟨h.os, h.tape, h.output, h.size, fun k hk _ => h.block k hk⟩
theorem owns_below {w w' : World} {B : Nat} {e : TypeId} {size n : Nat} {v : Value} {xs : List Value} (h : w.ownsRow B e size v n xs) (hb : Below w.heap.size w w') : w'.ownsRow B e size v n xs :=
  h.kept (grown_of_below hb none) (by cases hv : v.ownBlock <;> simp)
theorem below_step {B : Nat} {w wr w1 : World} {e : TypeId} {size n : Nat} {v : Value} {xs : List Value} {o : Obj} (hnx : Below B w wr) (hB : B ≤ wr.heap.size) (hown : wr.ownsRow B e size v n xs)
    (hg : (wr.alloc o).grownBy w1 v.ownBlock) : Below B w w1 :=
  (hnx.alloc hB o).grown hg (by simp; omega) (fun j hj => (hown.lt j hj).1)
theorem owns_draws {w : World} {B : Nat} {e : TypeId} {size n : Nat} {v : Value} {xs : List Value} (h : w.ownsRow B e size v n xs) (q : Nat) : (w.drewN q).ownsRow B e size v n xs := h

/-- the cells of digits. -/
def dVals (zs : List Nat) : List Value := zs.map fun (d : Nat) => Value.int .u32 (d : Int)
theorem dVals_append (a b : List Nat) : dVals (a ++ b) = dVals a ++ dVals b := by simp [dVals]
theorem owns_step32 {w : World} {B : Nat} {e : TypeId} {v : Value} {acc zs : List Nat} {m : Nat} (hm : zs.length = m)
    (h : w.ownsRow B e 1 v (acc.length + m) (dVals acc ++ dVals zs)) : w.ownsRow B e 1 v (acc ++ zs).length (dVals (acc ++ zs)) := by
  rw [dVals_append, List.length_append, hm]
  exact h

/-- the slice v reads as the digits zs. -/
def Reads32 (w : World) (v : Value) (zs : List Nat) : Prop :=
  (zs = [] ∧ ∃ ad cap, v = .slice ad 0 cap) ∨
  (∃ b off cap, v = .slice (some ⟨b, off, none⟩) zs.length cap ∧ zs.length ≤ cap ∧ ∀ j, j < zs.length → w.cell? ⟨b, off + j, none⟩ = some (.int .u32 (zs.getD j 0 : Nat)))

theorem Reads32.later {w w' : World} {v : Value} {zs : List Nat} (h : Reads32 w v zs) (hb : Below w.heap.size w w') : Reads32 w' v zs := by
  rcases h with h | ⟨b, off, cap, rfl, hcap, hc⟩
  · exact .inl h
  · exact .inr ⟨b, off, cap, rfl, hcap, fun j hj => cell_later hb (hc j hj)⟩
theorem Reads32.draw {w : World} {v : Value} {zs : List Nat} (h : Reads32 w v zs) (q : Nat) : Reads32 (w.drewN q) v zs := h.later (below_draws (Below.refl _ _) q)

theorem Reads32.of_owns {w : World} {B n : Nat} {e : TypeId} {v : Value} {zs : List Nat} (h : w.ownsRow B e 1 v n (dVals zs)) : Reads32 w v zs := by
  have hn : zs.length = n := by have := h.1; simp [dVals] at this; omega
  subst hn
  rcases h.2 with ⟨rfl, h0⟩ | ⟨g, cap, cur, rfl, _, hg, hcap, _⟩
  · exact .inl ⟨List.eq_nil_of_length_eq_zero h0, none, 0, rfl⟩
  · refine .inr ⟨g, 0, cap, rfl, by omega, fun j hj => ?_⟩
    have := h.cellAt j (by omega)
    rw [Nat.zero_add, this]
    simp [dVals, List.getD, hj]

/-- v is the whole number X. -/
def IsN (w : World) (v : Value) (X : Nat) : Prop := Reads32 w v (dg X)
theorem IsN.later {w w' : World} {v : Value} {X : Nat} (h : IsN w v X) (hb : Below w.heap.size w w') : IsN w' v X := Reads32.later h hb

/-- a row grows elsewhere. -/
theorem IsN.grown {w w' : World} {v : Value} {X : Nat} {row : Option Nat} (h : IsN w v X) (hg : w.grownBy w' row) (hne : ∀ b, v.ownBlock = some b → some b ≠ row) : IsN w' v X := by
  unfold IsN at h ⊢
  rcases h with h | ⟨b, off, cap, rfl, hcap, hc⟩
  · exact .inl h
  · refine .inr ⟨b, off, cap, rfl, hcap, fun j hj => ?_⟩
    have hcj := hc j hj
    have hb := hg.block b (World.block_lt_of_cell? w _ hcj) (hne b rfl)
    rw [← hcj]
    simp only [World.cell?, hb]

theorem info59 : (Tryz.prog.info? 59).map (fun i => (i.zero, i.size, i.bytes)) = some (some (.int .u32 0), 1, 4) := by kernel_rfl
end Go.Proofs.YtdijkobiffhgcaaGreatDoor.Nu
