/- Sets that a call keeps in a map from numbers to bools: what is known of them, and the laws of the operations as events. -/
import Derived.Test.YtdcjionaedcfoaaL
import Derived.Maps.OwnOps
import Derived.Maps.OwnSet
import Derived.Maps.Views
set_option linter.unusedVariables false
set_option linter.unusedSimpArgs false
namespace Go.Proofs.Ytdcjionaedcfoaa.L
open Go.RowKit

/-- Block b is a map from numbers (kind q) to bools that holds true just at S. -/
def BSet (P : Program) (kt et : TypeId) (q : IntKind) (w : World) (b : Nat) (S : List Int) : Prop :=
  S.Nodup ∧ ∃ D : DataW Unit, w.ownsMap P kt (plainElem P et) b S.length D ∧ Maps.Tidy D ∧ Maps.size D = S.length ∧ ∀ i : Int, Maps.has D (.int q i) = decide (i ∈ S) ∧ D.atKey (.int q i) (.lit (.bool false)) = .lit (.bool (decide (i ∈ S)))
def addS (S : List Int) (i : Int) : List Int := if i ∈ S then S else S ++ [i]
theorem mem_addS {S : List Int} {i j : Int} : j ∈ addS S i ↔ j ∈ S ∨ j = i := by
  unfold addS
  split
  · next h => exact ⟨.inl, fun h' => h'.elim id (fun e => e ▸ h)⟩
  · simp
theorem addS_nodup {S : List Int} {i : Int} (h : S.Nodup) : (addS S i).Nodup := by
  unfold addS
  split
  · exact h
  · next hi => rw [List.nodup_append]; exact ⟨h, by simp, fun a ha b hb => by simp at hb; subst hb; exact fun e => hi (e ▸ ha)⟩
theorem addS_len (S : List Int) (i : Int) : (addS S i).length ≤ S.length + 1 := by unfold addS; split <;> simp
section
variable {P : Program} {kt et : TypeId} {q : IntKind} {w w1 : World} {b : Nat} {S : List Int}
theorem BSet.lt (h : BSet P kt et q w b S) : b < w.heap.size := by obtain ⟨_, D, h, _⟩ := h; exact h.lt
theorem BSet.block (h : BSet P kt et q w b S) (hb : w1.heap[b]? = w.heap[b]?) : BSet P kt et q w1 b S := by
  obtain ⟨h0, D, ⟨es, clock, h1, h2⟩, h3⟩ := h
  exact ⟨h0, D, ⟨es, clock, hb.trans h1, h2⟩, h3⟩
theorem BSet.below (h : BSet P kt et q w b S) (hb : Below w.heap.size w w1) : BSet P kt et q w1 b S := h.block (hb.block b h.lt)
theorem BSet.under {B : Nat} (h : BSet P kt et q w b S) (hlt : b < B) (hb : Below B w w1) : BSet P kt et q w1 b S := h.block (hb.block b hlt)
theorem BSet.grown {row : Option Nat} (h : BSet P kt et q w b S) (hg : w.grownBy w1 row) (hne : some b ≠ row) : BSet P kt et q w1 b S := h.block (hg.block b h.lt hne)
theorem BSet.setCell (h : BSet P kt et q w b S) (p : Addr) (v : Value) (hne : p.block ≠ b) : BSet P kt et q (w.setCell p v) b S := h.block (Below.heap_setCell _ _ _ _ (fun e => hne (by rw [e])))
theorem BSet.new (w : World) : BSet P kt et q (w.alloc (.map #[] 0)) w.heap.size [] :=
  ⟨List.nodup_nil, .map [], World.ownsMap_made _ _ _ _, Maps.tidy_empty, rfl, fun i => ⟨by simp [Maps.has_eq], Maps.atKey_of_not_has (by simp [Maps.has_eq]) _⟩⟩
theorem owns_size {H : Type} {R : Value → Option (DataW H × List MemPlace)} {n : Nat} {D : DataW H} (h : w.ownsMap P kt R b n D) : w.ownsMap P kt R b (Maps.size D) D := by
  obtain ⟨es, clock, h1, h2, h3, rfl⟩ := h
  refine ⟨es, clock, h1, h2, ?_, rfl⟩
  rw [Maps.size_eq, length_sorted]; simp
theorem lit_inj {i j : Int} (h : j ≠ i) : (Lit.int q j) ≠ .int q i := fun e => h (by cases e; rfl)
theorem BSet.put (h : BSet P kt et q w b S) {t : TypeId} (hk : P.underlying kt = some (.int q)) (he : P.underlying et = some .bool) (ht : P.underlying t = some (.map kt et)) (hn : S.length < maxLen) {i : Int} (hi : (Lit.int q i).wf = true) :
    ∃ w', (Instr.mapUpdate t (.map (some b)) (.int q i) (.bool true)).run P w = .ok () w' ∧ BSet P kt et q w' b (addS S i) ∧ w.grownBy w' (some b) := by
  obtain ⟨h0, D, ho, htd, hsz, hat⟩ := h
  obtain ⟨w', hrun, ho', hg⟩ := ho.update (Maps.int_keyed hk) ht hn (Maps.keyOf_int_mk hk hi) (plainElem_bool he true)
  refine ⟨w', hrun, ⟨addS_nodup h0, D.put (.int q i) (.lit (.bool true)), ?_, htd.put (k := .int q i) trivial _, ?_, fun j => ?_⟩, hg⟩
  · have := owns_size ho'
    rw [Maps.size_put htd, (hat i).1, hsz] at this
    unfold addS
    by_cases hm : i ∈ S
    · rw [if_pos hm]; simpa [hm] using this
    · rw [if_neg hm]; simpa [hm] using this
  · rw [Maps.size_put htd, (hat i).1, hsz]
    unfold addS
    by_cases hm : i ∈ S
    · rw [if_pos hm]; simp [hm]
    · rw [if_neg hm]; simp [hm]
  · by_cases e : j = i
    · subst e
      have : j ∈ addS S j := mem_addS.2 (.inr rfl)
      rw [Maps.has_put_same (k := .int q j) htd.isMap trivial, Maps.atKey_put_same (k := .int q j) htd.isMap trivial, decide_eq_true this]
      exact ⟨rfl, rfl⟩
    · have hd : decide (j ∈ addS S i) = decide (j ∈ S) := by
        rw [decide_eq_decide, mem_addS]; simp [e]
      rw [Maps.has_put_other (lit_inj e), Maps.atKey_put_other (lit_inj e), hd]
      exact hat j
theorem BSet.get (h : BSet P kt et q w b S) {t : TypeId} (hk : P.underlying kt = some (.int q)) (he : P.underlying et = some .bool) (ht : P.underlying t = some (.map kt et)) (hz : (zeroValue et).run P w = .ok (.bool false) w) {i : Int} (hi : (Lit.int q i).wf = true) :
    (Instr.lookup t (.map (some b)) (.int q i) false).run P w = .ok (.bool (decide (i ∈ S))) w := by
  obtain ⟨h0, D, ho, htd, hsz, hat⟩ := h
  obtain ⟨v, ps, hrun, hv⟩ := ho.lookup (Maps.int_keyed hk) ht hz (plainElem_bool he false) (Maps.keyOf_int_mk hk hi)
  rw [(hat i).2] at hv
  have : v = .bool (decide (i ∈ S)) := by
    unfold plainElem at hv
    rw [he] at hv
    cases v <;> simp_all
  rw [hrun, this]
end
section
variable {P : Program} {ops : Array Oper} {rest : List Oper} {o : Oper} {a : Act} {Q : Exit → Act → World → Prop} {kt et : TypeId} {q : IntKind} {w : World} {b : Nat} {S : List Int}
theorem set_make {W : World} (hgd : o.guard = none) (hrun : (execOp a.eval o).run P W = .ok (.value (.map (some W.heap.size))) (W.alloc (.map #[] 0)))
    (h : ∀ w1, BSet P kt et q w1 W.heap.size [] → Below W.heap.size W w1 → W.heap.size < w1.heap.size → wpList P ops Q rest (a.put o.dst (.map (some W.heap.size))) w1) : wpList P ops Q (o :: rest) a W := by
  refine wpList_plain hgd fun K hK => ?_
  unfold Oper.wp
  rw [hrun]
  exact hK _ _ (h _ (BSet.new _) (alloc_below _ _) (by simp))
theorem set_add (hgd : o.guard = none) (m x v : Operand) (t : TypeId) (hop : o.op = Op.mapUpdate t m x v) (hk : P.underlying kt = some (.int q)) (he : P.underlying et = some .bool) (ht : P.underlying t = some (.map kt et))
    (HS : BSet P kt et q w b S) (i : Int) (hm : a.eval m = .map (some b)) (hx : a.eval x = .int q i) (hv : a.eval v = .bool true) (hn : S.length < maxLen) (hi : (Lit.int q i).wf = true)
    (h : ∀ w1, BSet P kt et q w1 b (addS S i) → w.grownBy w1 (some b) → wpList P ops Q rest (a.put o.dst undef) w1) : wpList P ops Q (o :: rest) a w := by
  refine wpList_plain hgd fun K hK => ?_
  obtain ⟨w1, hrun, h1, h2⟩ := HS.put hk he ht hn hi
  unfold Oper.wp
  simp [execOp, hop, hm, hx, hv, hrun, Result.andThen]
  exact hK _ _ (h w1 h1 h2)
theorem set_get (hgd : o.guard = none) (m x : Operand) (t : TypeId) (hop : o.op = Op.lookup t m x false) (hk : P.underlying kt = some (.int q)) (he : P.underlying et = some .bool) (ht : P.underlying t = some (.map kt et)) (hz : (zeroValue et).run P w = .ok (.bool false) w)
    (HS : BSet P kt et q w b S) (i : Int) (hm : a.eval m = .map (some b)) (hx : a.eval x = .int q i) (hi : (Lit.int q i).wf = true)
    (h : wpList P ops Q rest (a.put o.dst (.bool (decide (i ∈ S)))) w) : wpList P ops Q (o :: rest) a w := by
  refine wpList_plain hgd fun K hK => ?_
  unfold Oper.wp
  simp [execOp, hop, hm, hx, HS.get hk he ht hz hi, Result.andThen]
  exact hK _ _ h
theorem wpList_wanted (hw : Region.wanted o (yielded ops a.tmps) = true) (h : ∀ K : Act → World → Prop, (∀ a w, wpList P ops Q rest a w → K a w) → o.wp P a w K Q) : wpList P ops Q (o :: rest) a w :=
  wpList_step fun K hK => by rw [if_pos hw]; exact h K hK
theorem set_len (hgd : Region.wanted o (yielded ops a.tmps) = true) (m : Operand) (t : TypeId) (hop : o.op = Op.call { callee := Callee.builtin Builtin.len, args := #[m], argTypes := #[t] }) (ht : P.underlying t = some (.map kt et))
    (HS : BSet P kt et q w b S) (hm : a.eval m = .map (some b)) (L : Nat) (hL : S.length = L) (h : wpList P ops Q rest (a.put o.dst (.int .i64 (L : Int))) w) : wpList P ops Q (o :: rest) a w := by
  subst hL
  obtain ⟨h0, D, ho, htd, hsz, hat⟩ := HS
  refine wpList_wanted hgd fun K' hK' => ?_
  unfold Oper.wp
  simp [execOp, hop, resolve, invoke, builtin, hm, ho.len ht o.type, Result.andThen, hsz]
  exact hK' _ _ h
end
end Go.Proofs.Ytdcjionaedcfoaa.L
