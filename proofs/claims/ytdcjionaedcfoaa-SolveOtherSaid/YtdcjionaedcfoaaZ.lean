/- append(v, make([]byte, m)...): the operation comes with the number in the second place. -/
import Derived.Test.YtdcjionaedcfoaaO
import Derived.Test.YtdcjionaedcfoaaWZeros
set_option linter.unusedVariables false
set_option linter.unusedSimpArgs false
namespace Go.Proofs.Ytdcjionaedcfoaa.L
open Go.RowKit
theorem Own.row {α : Type} {enc : α → Value} {t : TypeId} {w : World} {base n c : Nat} {A : Option Addr} {xs : List α} (h : Own enc t w base (.slice A n c) xs) : w.ownsRow base t 1 (.slice A n c) n (xs.map enc) := by
  obtain ⟨rfl, _⟩ := h.rd'
  exact h
theorem Own.of_row {α : Type} {enc : α → Value} {t : TypeId} {w : World} {base n : Nat} {v : Value} {xs : List α} (h : w.ownsRow base t 1 v n (xs.map enc)) : Own enc t w base v xs := by
  have hl : xs.length = n := by have := h.1; simpa using this
  unfold Own; rw [hl]; exact h
section
variable {P : Program} {ops : Array Oper} {rest : List Oper} {o : Oper} {a : Act} {Q : Exit → Act → World → Prop}
theorem appendzero_event {W : World} (w0 : World) (base : Nat) (t ti e : TypeId) (z : Value) (bytes : Nat) (s x : Operand) (hgd : o.guard = none)
    (ho : o.op = .call { callee := .builtin .append, args := #[s, x], argTypes := #[t, ti] })
    (ht : P.underlying t = some (.slice e)) {k : IntKind} (hti : P.underlying ti = some (.int k)) (hinfo : (P.info? e).map (fun i => (i.zero, i.size, i.bytes)) = some (some z, 1, bytes)) (hz : z.cells = #[z]) (hz1 : z.oneCell' = true)
    (v : Value) (n : Nat) (us : List Value) (m : Nat) (hs : a.eval s = v) (hx : a.eval x = .int .i64 (m : Int))
    (HO : W.ownsRow base e 1 v n us) (HB : Below base w0 W) (hbase : base ≤ W.heap.size)
    (hbytes : (n + m) * bytes ≤ 140737488355328) (hb0 : 0 < bytes) (N : Nat) (hN : n + m = N) (ys : List Value) (hys : us ++ List.replicate m z = ys)
    (h : ∀ A' c' w1, As (w1.ownsRow base e 1 (.slice A' N c') N ys) → As (A' = none → c' = 0) → As (N ≤ c') → As (Below base w0 w1) → As (W.grownBy w1 v.ownBlock) → As (((.slice A' N c') : Value).ownBlock = v.ownBlock ∨ ((.slice A' N c') : Value).ownBlock = some W.heap.size) → wpList P ops Q rest (a.put o.dst (.slice A' N c')) w1) :
    wpList P ops Q (o :: rest) a W := by
  subst hN hys
  obtain ⟨i0, hi, hzz⟩ := Option.map_eq_some_iff.1 hinfo
  simp only [Prod.mk.injEq] at hzz
  obtain ⟨hz0, hzs, hzb⟩ := hzz
  have hzc : (Builtin.zeroCells z.cells m).toList = List.replicate m z := by
    rw [hz]
    apply List.ext_getElem (by simp [Builtin.zeroCells])
    intro i h1 h2
    simp [Builtin.zeroCells, Nat.mod_one]
  obtain ⟨v', w', hr, h2, h3, h4⟩ := Go.Proofs.YtdcjionaedcfoaaW.PrintWords.run_append_zeros (P := P) W base t ti o.type e i0 z 1 bytes ht hti hi hz0 hzs hzb (by rw [hz]; rfl) (by omega) hb0 v n us HO .i64 m
    (by rw [hzc]; intro u hu; rw [List.eq_of_mem_replicate hu]; exact hz1) hbytes hbase
  rw [hzc] at h2
  refine wpList_plain hgd fun K hK => ?_
  unfold Oper.wp execOp
  simp only [ho, resolve, invoke, builtin, Sem.run_bind, Sem.run_pure, Result.andThen_ok, List.map_toArray, List.map_cons, List.map_nil, hs, hx, hr]
  obtain ⟨A', c', rfl, hA, hC⟩ : ∃ A' c', v' = .slice A' (n + m) c' ∧ (A' = none → c' = 0) ∧ n + m ≤ c' := by
    rcases h2.2 with ⟨rfl, h0⟩ | ⟨g, cap, cur, rfl, _, _, h1, _⟩
    · exact ⟨none, 0, by rw [h0], fun _ => rfl, by omega⟩
    · exact ⟨_, cap, rfl, (fun e => by cases e), h1⟩
  exact hK _ _ (h A' c' w' ⟨h2⟩ ⟨hA⟩ ⟨hC⟩ ⟨HB.grown h3 hbase fun k hk => (HO.lt k hk).1⟩ ⟨h3⟩ ⟨h4⟩)
end
end Go.Proofs.Ytdcjionaedcfoaa.L
