/- Slices that a call made itself: what is known of them, and the laws of append and make as events. -/
import Derived.Test.YtdcjionaedcfoaaLbits
import Derived.Deep.AppendLies
import Derived.Maps.AppendAt
import Derived.OwnWalk
import Derived.Laws.MakeOwn
import Derived.Laws.OwnMore
import Derived.Laws.AppendOwnNone
import Derived.Deep.OwnRows
set_option linter.unusedVariables false
set_option linter.unusedSimpArgs false
namespace Go.Proofs.Ytdcjionaedcfoaa.L
open Go.RowKit

/-- v is a slice of the call's own (blocks from base on), of one cell each, that holds xs. -/
def Own {α : Type} (enc : α → Value) (t : TypeId) (w : World) (base : Nat) (v : Value) (xs : List α) : Prop := w.ownsRow base t 1 v xs.length (xs.map enc)

theorem ownV_nil (w : World) (base : Nat) (t : TypeId) (size : Nat) : w.ownsRow base t size (.slice none 0 0) 0 [] := ⟨by simp, .inl ⟨rfl, rfl⟩⟩
theorem Own.nil {α : Type} (enc : α → Value) (t : TypeId) (w : World) (base : Nat) : Own enc t w base (.slice none 0 0) ([] : List α) := ownV_nil _ _ _ _
theorem ownV_below {w w1 : World} {base size n : Nat} {t : TypeId} {v : Value} {us : List Value} (h : w.ownsRow base t size v n us) (hb : Below w.heap.size w w1) : w1.ownsRow base t size v n us :=
  h.kept (row := none) ⟨hb.os, hb.tape, hb.output, hb.size, fun i hi _ => hb.block i hi⟩ (by cases v.ownBlock <;> simp)
theorem Own.below {α : Type} {enc : α → Value} {t : TypeId} {w w1 : World} {base : Nat} {v : Value} {xs : List α} (h : Own enc t w base v xs) (hb : Below w.heap.size w w1) : Own enc t w1 base v xs := ownV_below h hb
theorem ownV_less {W : World} {b base n size : Nat} {e : TypeId} {v : Value} {us : List Value} (h : W.ownsRow b e size v n us) (hle : base ≤ b) : W.ownsRow base e size v n us := by
  obtain ⟨h1, h2⟩ := h
  exact ⟨h1, h2.imp id fun ⟨g, cap, cur, he, hb, hr⟩ => ⟨g, cap, cur, he, Nat.le_trans hle hb, hr⟩⟩
theorem Own.less {α : Type} {enc : α → Value} {t : TypeId} {w : World} {b base : Nat} {v : Value} {xs : List α} (h : Own enc t w b v xs) (hle : base ≤ b) : Own enc t w base v xs := ownV_less h hle
/-- Its shape, and how it reads. -/
theorem ownV_rd {w : World} {base size n : Nat} {t : TypeId} {v : Value} {us : List Value} (h : w.ownsRow base t size v n us) : ∃ A c, v = .slice A n c ∧ RdV size w A n us := by
  have hl := h.1
  rcases h.2 with ⟨rfl, rfl⟩ | ⟨g, cap, cur, rfl, hb, hh, h1, h2, h3, h4⟩
  · exact ⟨none, 0, rfl, by simpa using hl, by omega, fun hp => absurd hp (by omega)⟩
  · refine ⟨_, cap, rfl, hl, by simp only [maxLen] at h2; omega, fun hp => ⟨_, rfl, fun j u hj => ?_⟩⟩
    rw [add_plain, blk_cell hh]
    rw [← h4, List.getElem?_take] at hj
    split at hj
    · simpa using hj
    · cases hj
theorem Own.rd {α : Type} {enc : α → Value} {t : TypeId} {w : World} {base : Nat} {v : Value} {xs : List α} (h : Own enc t w base v xs) : ∃ A c, v = .slice A xs.length c ∧ Rd enc w A xs.length xs := ownV_rd h
theorem Own.rd' {α : Type} {enc : α → Value} {t : TypeId} {w : World} {base n c : Nat} {A : Option Addr} {xs : List α} (h : Own enc t w base (.slice A n c) xs) : n = xs.length ∧ Rd enc w A n xs := by
  obtain ⟨A', c', he, hr⟩ := h.rd
  injection he with h1 h2 h3
  subst h1 h2
  exact ⟨rfl, hr⟩
theorem Rd.drop {α : Type} {enc : α → Value} {w : World} {A : Option Addr} {n : Nat} {xs : List α} (h : Rd enc w A n xs) (i : Nat) (hi : i ≤ n) : Rd enc w (A.map fun x => x.add i) (n - i) (xs.drop i) := by
  have hl := h.len
  refine ⟨by simp [hl], by have := h.le; omega, fun hp => ?_⟩
  obtain ⟨ad, rfl, hc⟩ := h.2.2 (by omega)
  refine ⟨_, rfl, fun j u hj => ?_⟩
  rw [List.map_drop, List.getElem?_drop] at hj
  have := hc _ _ hj
  rw [show (ad.add i).add j = ad.add (i + j) from ?_]
  · exact this
  · unfold Addr.add
    by_cases h0 : i = 0
    · subst h0; simp
    · by_cases h1 : j = 0
      · subst h1; simp [h0]
      · simp [h0, h1, Nat.add_assoc]
theorem Rd.take {α : Type} {enc : α → Value} {w : World} {A : Option Addr} {n : Nat} {xs : List α} (h : Rd enc w A n xs) (i : Nat) (hi : i ≤ n) : Rd enc w A i (xs.take i) := by
  have hl := h.len
  refine ⟨by simp [hl, hi], by have := h.le; omega, fun hp => ?_⟩
  obtain ⟨ad, rfl, hc⟩ := h.2.2 (by omega)
  refine ⟨_, rfl, fun j u hj => hc _ _ ?_⟩
  rw [List.map_take, List.getElem?_take] at hj
  split at hj
  · exact hj
  · cases hj
/-- An element's place: it may be stored into. -/
theorem ownV_at {w : World} {base size n c : Nat} {t : TypeId} {A : Option Addr} {us : List Value} (h : w.ownsRow base t size (.slice A n c) n us) (j : Nat) (hj : j < n * size) :
    ∃ g, A = some ⟨g, 0, none⟩ ∧ base ≤ g ∧ g < w.heap.size ∧ (∃ u, us[j]? = some u ∧ w.cell? ⟨g, j, none⟩ = some u) ∧ w.frozen? ⟨g, j, none⟩ = false := by
  have hl := h.1
  rcases h.2 with ⟨he, rfl⟩ | ⟨g, cap, cur, he, hb, hh, h1, h2, h3, h4⟩
  · omega
  · injection he with h5 h6 h7
    subst h5 h7
    refine ⟨g, rfl, hb, blk_lt hh, ?_, blk_free hh _⟩
    refine ⟨us[j]'(by omega), List.getElem?_eq_getElem _, ?_⟩
    rw [h.cellAt j hj]
    exact List.getElem?_eq_getElem _
theorem Own.at_ {α : Type} {enc : α → Value} {t : TypeId} {w : World} {base n c : Nat} {A : Option Addr} {xs : List α} (h : Own enc t w base (.slice A n c) xs) (j : Nat) (hj : j < xs.length) :
    ∃ g, A = some ⟨g, 0, none⟩ ∧ base ≤ g ∧ g < w.heap.size ∧ (∃ x, xs[j]? = some x ∧ w.cell? ⟨g, j, none⟩ = some (enc x)) ∧ w.frozen? ⟨g, j, none⟩ = false := by
  obtain ⟨rfl, _⟩ := h.rd'
  obtain ⟨g, h1, h2, h3, ⟨u, h4, h5⟩, h6⟩ := ownV_at h j (by simpa using hj)
  rw [List.getElem?_map, List.getElem?_eq_getElem hj] at h4
  cases h4
  exact ⟨g, h1, h2, h3, ⟨_, List.getElem?_eq_getElem hj, h5⟩, h6⟩
theorem Own.at' {α : Type} {enc : α → Value} {t : TypeId} {w : World} {base n c g : Nat} {xs : List α} (h : Own enc t w base (.slice (some ⟨g, 0, none⟩) n c) xs) (j : Nat) (hj : j < n) :
    ∃ x, xs[j]? = some x ∧ w.cell? ⟨g, j, none⟩ = some (enc x) ∧ w.frozen? ⟨g, j, none⟩ = false := by
  obtain ⟨rfl, _⟩ := h.rd'
  obtain ⟨g', h1, h2, h3, ⟨x, h4, h5⟩, h6⟩ := h.at_ j hj
  cases h1
  exact ⟨x, h4, h5, h6⟩
theorem ownV_set {w : World} {base size n c g : Nat} {t : TypeId} {us : List Value} (h : w.ownsRow base t size (.slice (some ⟨g, 0, none⟩) n c) n us) (j : Nat) (u : Value) :
    (w.setCell ⟨g, j, none⟩ u).ownsRow base t size (.slice (some ⟨g, 0, none⟩) n c) n (us.set j u) := (h.stored j u).1
theorem Own.set {α : Type} {enc : α → Value} {t : TypeId} {w : World} {base n c g : Nat} {xs : List α} (h : Own enc t w base (.slice (some ⟨g, 0, none⟩) n c) xs) (j : Nat) (x : α) :
    Own enc t (w.setCell ⟨g, j, none⟩ (enc x)) base (.slice (some ⟨g, 0, none⟩) n c) (xs.set j x) := by
  obtain ⟨rfl, _⟩ := h.rd'
  have := ownV_set h j (enc x)
  unfold Own
  rw [List.length_set, List.map_set]
  exact this
/-- Another block is written: this one lives on. -/
theorem ownV_other {w : World} {base size n c g : Nat} {t : TypeId} {A : Option Addr} {us : List Value} {p : Addr} {u : Value} (h : w.ownsRow base t size (.slice A n c) n us) (hne : ∀ a, A = some a → a.block ≠ p.block) :
    (w.setCell p u).ownsRow base t size (.slice A n c) n us := by
  refine h.kept (row := some p.block) ⟨rfl, rfl, rfl, by simp [World.setCell], fun k hk hkp => Below.heap_setCell _ _ _ _ (fun e => hkp (by rw [e]))⟩ ?_
  cases A with
  | none => exact .inl rfl
  | some a => exact .inr (fun e => hne a rfl (by simpa [Value.ownBlock] using e))

/-- A literal's block is a row of the call's own. -/
theorem own_blk {α : Type} (enc : α → Value) {w : World} {g base : Nat} {t : TypeId} (xs : List α) (h : w.heap[g]? = some (.cells (xs.map enc).toArray t (0, 0))) (hb : base ≤ g) (hm : xs.length ≤ 9223372036854775807) : Own enc t w base (.slice (some ⟨g, 0, none⟩) xs.length xs.length) xs :=
  ⟨by simp, .inr ⟨g, xs.length, _, rfl, hb, h, Nat.le_refl _, by simpa [maxLen] using hm, by simp, List.take_of_length_le (by simp)⟩⟩
section
variable {P : Program} {ops : Array Oper} {rest : List Oper} {o : Oper} {a : Act} {Q : Exit → Act → World → Prop}
/-- append(v, x...): v the call's own, x whatever reads. -/
theorem append_event {W : World} (w0 : World) (base : Nat) (t e : TypeId) (z : Value) (size bytes : Nat) (s x : Operand) (hgd : o.guard = none)
    (ho : o.op = .call { callee := .builtin .append, args := #[s, x], argTypes := #[t, t] })
    (ht : P.underlying t = some (.slice e)) (hinfo : (P.info? e).map (fun i => (i.zero, i.size, i.bytes)) = some (some z, size, bytes)) (hz : z.cells.size = size) (hs0 : 0 < size)
    (v : Value) (n : Nat) (us : List Value) (A : Option Addr) (m c : Nat) (vs : List Value) (hs : a.eval s = v) (hx : a.eval x = .slice A m c) (hc : A = none → c = 0)
    (HO : W.ownsRow base e size v n us) (HR : RdV size W A m vs) (h1 : ∀ u ∈ vs, u.oneCell' = true) (HB : Below base w0 W) (hbase : base ≤ W.heap.size)
    (hbytes : (n + m) * bytes ≤ 140737488355328) (hb0 : 0 < bytes) (N : Nat) (hN : n + m = N) (ys : List Value) (hys : us ++ vs = ys)
    (h : ∀ A' c' w1, As (w1.ownsRow base e size (.slice A' N c') N ys) → As (A' = none → c' = 0) → As (N ≤ c') → As (Below base w0 w1) → As (W.grownBy w1 v.ownBlock) → As (((.slice A' N c') : Value).ownBlock = v.ownBlock ∨ ((.slice A' N c') : Value).ownBlock = some W.heap.size) → wpList P ops Q rest (a.put o.dst (.slice A' N c')) w1) :
    wpList P ops Q (o :: rest) a W := by
  subst hN hys
  obtain ⟨i0, hi, hzz⟩ := Option.map_eq_some_iff.1 hinfo
  simp only [Prod.mk.injEq] at hzz
  obtain ⟨hz0, hz1, hz2⟩ := hzz
  have hnm : n + m ≤ 140737488355328 := Nat.le_trans (Nat.le_mul_of_pos_right _ hb0) hbytes
  have shape : ∀ {v' : Value} {w1 : World} {k : Nat} {ys : List Value}, w1.ownsRow base e size v' k ys → ∃ A' c', v' = .slice A' k c' ∧ (A' = none → c' = 0) ∧ k ≤ c' := by
    intro v' w1 k ys hh
    rcases hh.2 with ⟨rfl, rfl⟩ | ⟨g, cap, cur, rfl, _, _, h1, _⟩
    · exact ⟨none, 0, rfl, fun _ => rfl, Nat.le_refl _⟩
    · exact ⟨_, cap, rfl, (fun e => by cases e), h1⟩
  cases A with
  | none =>
    have hm0 : m = 0 := by
      rcases Nat.eq_zero_or_pos m with h0 | h0
      · exact h0
      · obtain ⟨ad, e, _⟩ := HR.2.2 h0; cases e
    subst hm0
    have hv0 : vs = [] := List.eq_nil_of_length_eq_zero (by have := HR.1; omega)
    subst hv0
    rw [hc rfl] at hx
    refine wpList_append_own_none hgd s x t ho base e i0 size ht hi v n us hs HO hx ?_
    obtain ⟨A', c', rfl, hA, hC⟩ := shape HO
    have := h A' c' W ⟨by simpa using HO⟩ ⟨hA⟩ ⟨hC⟩ ⟨HB⟩ ⟨⟨rfl, rfl, rfl, Nat.le_refl _, fun _ _ _ => rfl⟩⟩ ⟨.inl rfl⟩
    simpa using this
  | some ad =>
    rcases Nat.eq_zero_or_pos m with h0 | h0
    · subst h0
      have hv0 : vs = [] := List.eq_nil_of_length_eq_zero (by have := HR.1; omega)
      subst hv0
      refine wpList_append_own_at W hgd s x t ho base e i0 z size bytes ht hi hz0 hz1 hz2 hz hs0 v n us hs HO ad 0 c [] hx (by simp) (fun j u hj => by simp at hj) (by simp) (by simp only [maxLen]; omega) hbytes hbase ?_
      intro v' w1 hown hg _ hat
      obtain ⟨A', c', rfl, hA, hC⟩ := shape hown
      exact h A' c' w1 ⟨hown⟩ ⟨hA⟩ ⟨hC⟩ ⟨HB.grown hg hbase fun k hk => (HO.lt k hk).1⟩ ⟨hg⟩ ⟨hat⟩
    · obtain ⟨ad', e1, hcell⟩ := HR.2.2 h0
      cases e1
      refine wpList_append_own_at W hgd s x t ho base e i0 z size bytes ht hi hz0 hz1 hz2 hz hs0 v n us hs HO ad m c vs hx HR.1 hcell h1 (by simp only [maxLen]; omega) hbytes hbase ?_
      intro v' w1 hown hg _ hat
      obtain ⟨A', c', rfl, hA, hC⟩ := shape hown
      exact h A' c' w1 ⟨hown⟩ ⟨hA⟩ ⟨hC⟩ ⟨HB.grown hg hbase fun k hk => (HO.lt k hk).1⟩ ⟨hg⟩ ⟨hat⟩
/-- make([]T, m), T of one cell. -/
theorem make_event {W : World} (w0 : World) (base : Nat) (t e : TypeId) (z : Value) (bytes : Nat) (x y : Operand) (m : Nat) (hgd : o.guard = none) (ho : o.op = .makeSlice t x y)
    (ht : P.underlying t = some (.slice e)) (hinfo : (P.info? e).map (fun i => (i.zero, i.size, i.bytes)) = some (some z, 1, bytes)) (hz1 : z.cells = #[z])
    (hx : a.eval x = .int .i64 (m : Int)) (hy : a.eval y = .int .i64 (m : Int)) (hb : bytes * m ≤ 281474976710656) (hm : m ≤ 9223372036854775807) (HB : Below base w0 W) (hbase : base ≤ W.heap.size)
    (h : ∀ w1, As (w1.ownsRow base e 1 (.slice (some ⟨W.heap.size, 0, none⟩) m m) m (List.replicate m z)) → As (Below base w0 w1) → As (Below W.heap.size W w1) → As (W.heap.size < w1.heap.size) → wpList P ops Q rest (a.put o.dst (.slice (some ⟨W.heap.size, 0, none⟩) m m)) w1) :
    wpList P ops Q (o :: rest) a W := by
  refine wpList_plain hgd fun K hK => ?_
  have hr := run_make_row' (P := P) t e z bytes ht hinfo hz1 .i64 .i64 m hb hm W
  unfold Oper.wp execOp
  simp only [ho, hx, hy, Sem.run_bind, hr, Result.andThen_ok]
  have hown : (W.alloc (.cells (madeCells #[z] m) e)).ownsRow base e 1 (.slice (some ⟨W.heap.size, 0, none⟩) m m) m (List.replicate m z) := by
    have := World.ownsRow_lit (base := base) (size := 1) (e := e) W (madeCells #[z] m) m hbase (by simpa [maxLen] using hm) (by simp [madeCells])
    rwa [toList_madeCells_one] at this
  exact hK _ _ (h _ ⟨hown⟩ ⟨HB.alloc hbase _⟩ ⟨alloc_below _ _⟩ ⟨by simp⟩)
end
end Go.Proofs.Ytdcjionaedcfoaa.L
