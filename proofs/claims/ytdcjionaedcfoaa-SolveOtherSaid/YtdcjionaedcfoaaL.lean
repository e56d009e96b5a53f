/- Small words of this work: slices that are read, and what a call leaves. -/
import Derived.WalkKit
import Derived.RowKit3
import Derived.Lib.Hide
import Derived.Deep.Draws
import Derived.Deep.QuietTactic
import Derived.BigQuiet
import Derived.Deep.LoopGhost
set_option linter.unusedVariables false
set_option linter.unusedSimpArgs false
namespace Go.Proofs.Ytdcjionaedcfoaa.L
open Go.RowKit

/-- A fact that the walk's simp doesn't look into. -/
structure As (p : Prop) : Prop where mk :: (out : p)

abbrev B (b : UInt8) : Value := Value.int .u8 (b.toNat : Int)
abbrev I (n : Int) : Value := Value.int .i64 n

/-- A slice of n elements of 'size' cells each: its cells are us. -/
def RdV (size : Nat) (w : World) (A : Option Addr) (n : Nat) (us : List Value) : Prop :=
  us.length = n * size ∧ n ≤ 9223372036854775807 ∧ (0 < n → ∃ ad, A = some ad ∧ ∀ j u, us[j]? = some u → w.cell? (ad.add j) = some u)
theorem RdV.below {size : Nat} {w w1 : World} {A : Option Addr} {n : Nat} {us : List Value} (h : RdV size w A n us) (hb : Below w.heap.size w w1) : RdV size w1 A n us :=
  ⟨h.1, h.2.1, fun hn => by
    obtain ⟨ad, e, hc⟩ := h.2.2 hn
    exact ⟨ad, e, fun j u hj => (hb.cell (World.block_lt_of_cell? w _ (hc j u hj))).trans (hc j u hj)⟩⟩
/-- A slice of n elements, each of one cell, reads as xs (by enc). -/
def Rd {α : Type} (enc : α → Value) (w : World) (A : Option Addr) (n : Nat) (xs : List α) : Prop := RdV 1 w A n (xs.map enc)
theorem Rd.len {α : Type} {enc : α → Value} {w : World} {A : Option Addr} {n : Nat} {xs : List α} (h : Rd enc w A n xs) : xs.length = n := by
  have := h.1; simpa using this
theorem Rd.le {α : Type} {enc : α → Value} {w : World} {A : Option Addr} {n : Nat} {xs : List α} (h : Rd enc w A n xs) : n ≤ 9223372036854775807 := h.2.1
theorem Rd.at_ {α : Type} {enc : α → Value} {w : World} {A : Option Addr} {n : Nat} {xs : List α} (h : Rd enc w A n xs) (k : Nat) (hk : k < n) :
    ∃ ad, A = some ad ∧ ∃ x, xs[k]? = some x ∧ w.cell? (ad.add k) = some (enc x) := by
  obtain ⟨ad, e, hc⟩ := h.2.2 (by omega)
  have hl := h.len
  exact ⟨ad, e, xs[k]'(by omega), List.getElem?_eq_getElem _, hc k _ (by rw [List.getElem?_map, List.getElem?_eq_getElem (by omega)]; rfl)⟩
theorem Rd.below {α : Type} {enc : α → Value} {w w1 : World} {A : Option Addr} {n : Nat} {xs : List α} (h : Rd enc w A n xs) (hb : Below w.heap.size w w1) : Rd enc w1 A n xs := RdV.below h hb
theorem Rd.nil {α : Type} (enc : α → Value) (w : World) (A : Option Addr) : Rd enc w A 0 ([] : List α) := ⟨rfl, by omega, fun h => absurd h (by omega)⟩
theorem add_plain (g j : Nat) : (⟨g, 0, none⟩ : Addr).add j = ⟨g, j, none⟩ := by unfold Addr.add; split <;> simp_all

/-- The world is the old one, some orders having been drawn. -/
def Drawn (w w' : World) : Prop := ∃ n, w' = w.drewN n
theorem Drawn.refl (w : World) : Drawn w w := ⟨0, rfl⟩
theorem Drawn.below {w w' : World} (h : Drawn w w') (B : Nat) : Below B w w' := by
  obtain ⟨n, rfl⟩ := h
  exact ⟨rfl, rfl, rfl, Nat.le_refl _, fun _ _ => rfl⟩
theorem below_then {B : Nat} {w w1 w2 : World} (h : Below B w w1) (hB : B ≤ w1.heap.size) (k : Below w1.heap.size w1 w2) : Below B w w2 :=
  h.trans (k.mono hB)

/-! ### Blocks -/
theorem blk_cell {w : World} {g : Nat} {cs : Array Value} {t : TypeId} {f : Nat × Nat} (h : w.heap[g]? = some (.cells cs t f)) (i : Nat) : w.cell? ⟨g, i, none⟩ = cs[i]? := by simp [World.cell?, h]
theorem blk_free {w : World} {g : Nat} {cs : Array Value} {t : TypeId} (h : w.heap[g]? = some (.cells cs t (0, 0))) (i : Nat) : w.frozen? ⟨g, i, none⟩ = false := by simp [World.frozen?, h]
theorem blk_lt {w : World} {g : Nat} {o : Obj} (h : w.heap[g]? = some o) : g < w.heap.size := (Array.getElem?_eq_some_iff.1 h).1
theorem blk_set {w : World} {g : Nat} {cs : Array Value} {t : TypeId} {f : Nat × Nat} (h : w.heap[g]? = some (.cells cs t f)) (o : Nat) (v : Value) :
    (w.setCell ⟨g, o, none⟩ v).heap[g]? = some (.cells (cs.setIfInBounds o v) t f) := by simp [World.setCell, Array.getElem?_modify, h]
theorem blk_below {B : Nat} {w w1 : World} {g : Nat} {o : Obj} (h : w.heap[g]? = some o) (hb : Below B w w1) (hg : g < B) : w1.heap[g]? = some o := (hb.block g hg).trans h
theorem blk_new (w : World) (o : Obj) : (w.alloc o).heap[w.heap.size]? = some o := by show (w.heap.push o)[w.heap.size]? = _; simp

theorem rdv_blk {w : World} {g : Nat} {t : TypeId} {f : Nat × Nat} {cs : Array Value} {size n : Nat} (h : w.heap[g]? = some (.cells cs t f)) (hs : cs.size = n * size) (hn : n ≤ 9223372036854775807) : RdV size w (some ⟨g, 0, none⟩) n cs.toList :=
  ⟨by simpa using hs, hn, fun _ => ⟨_, rfl, fun j u hj => by rw [add_plain, blk_cell h, ← hj]; simp⟩⟩
theorem rd_blk {α : Type} (enc : α → Value) {w : World} {g : Nat} {t : TypeId} {f : Nat × Nat} (xs : List α) (h : w.heap[g]? = some (.cells (xs.map enc).toArray t f)) (hn : xs.length ≤ 9223372036854775807) : Rd enc w (some ⟨g, 0, none⟩) xs.length xs := by
  have := rdv_blk (size := 1) (n := xs.length) h (by simp) hn
  simpa [Rd] using this
/-- A slice's literal, just made. -/
theorem rd_lit {α : Type} (enc : α → Value) (w : World) (t : TypeId) (xs : List α) (hn : xs.length ≤ 9223372036854775807) : Rd enc (w.alloc (.cells (xs.map enc).toArray t)) (some ⟨w.heap.size, 0, none⟩) xs.length xs := by
  have := rdv_blk (size := 1) (n := xs.length) (blk_new w (.cells (xs.map enc).toArray t)) (by simp) hn
  simpa [Rd] using this
theorem below_alloc {w W : World} (h : Below w.heap.size w W) (o : Obj) : Below w.heap.size w (W.alloc o) := h.alloc h.size o
theorem alloc_below (w : World) (o : Obj) : Below w.heap.size w (w.alloc o) := (Below.refl _ _).alloc (Nat.le_refl _) o

section
variable {P : Program} {ops : Array Oper} {rest : List Oper} {o : Oper} {a : Act} {Q : Exit → Act → World → Prop}
/-- A block is made: the walk goes on in a world of which only this is known. -/
theorem alloc_event {W : World} (t : TypeId) (cs : Array Value) (hgd : o.guard = none)
    (hrun : (execOp a.eval o).run P W = .ok (.value (.pointer (some ⟨W.heap.size, 0, none⟩))) (W.alloc (.cells cs t (0, 0))))
    (h : ∀ w1, w1.heap[W.heap.size]? = some (.cells cs t (0, 0)) → Below W.heap.size W w1 → wpList P ops Q rest (a.put o.dst (.pointer (some ⟨W.heap.size, 0, none⟩))) w1) : wpList P ops Q (o :: rest) a W := by
  refine wpList_plain hgd fun K hK => ?_
  unfold Oper.wp
  rw [hrun]
  exact hK _ _ (h _ (blk_new _ _) ((Below.refl _ _).alloc (Nat.le_refl _) _))
/-- A slice's literal is made. -/
theorem lit_event {W : World} (t : TypeId) (n : Nat) (cs : Array Value) (hgd : o.guard = none)
    (hrun : (execOp a.eval o).run P W = .ok (.value (.slice (some ⟨W.heap.size, 0, none⟩) n n)) (W.alloc (.cells cs t (0, 0))))
    (h : ∀ g w1, As (w1.heap[g]? = some (.cells cs t (0, 0))) → As (W.heap.size ≤ g) → As (Below W.heap.size W w1) → wpList P ops Q rest (a.put o.dst (.slice (some ⟨g, 0, none⟩) n n)) w1) : wpList P ops Q (o :: rest) a W := by
  refine wpList_plain hgd fun K hK => ?_
  unfold Oper.wp
  rw [hrun]
  exact hK _ _ (h _ _ ⟨blk_new _ _⟩ ⟨Nat.le_refl _⟩ ⟨alloc_below _ _⟩)
end
end Go.Proofs.Ytdcjionaedcfoaa.L
