/- The places that are erased, as a set: sorted, each once. -/
import Derived.Test.YtdcjionaedcfoaaRange3
set_option linter.unusedVariables false
set_option linter.unusedSimpArgs false
namespace Go.Proofs.Ytdcjionaedcfoaa.Range
theorem zsort_mem {zs : List Int} {i : Int} : i ∈ zsort zs ↔ i ∈ zs := List.mem_mergeSort
theorem zsort_sorted (zs : List Int) : (zsort zs).Pairwise (· ≤ ·) := by
  have := List.pairwise_mergeSort (le := fun x y : Int => decide (x ≤ y)) (fun a b c => by simp; omega) (fun a b => by simp; omega) zs
  exact this.imp (by simp)
theorem compact_inv {zs : List Int} (hs : zs.Pairwise (· ≤ ·)) : ∀ m, m ≤ zs.length → (Lib.compactUpTo zs.toArray m).Pairwise (· < ·) ∧ (∀ i, i ∈ Lib.compactUpTo zs.toArray m ↔ i ∈ zs.take m) ∧ (∀ x, 0 < m → zs[m - 1]? = some x → ∀ y ∈ Lib.compactUpTo zs.toArray m, y ≤ x)
  | 0, _ => ⟨by simp [Lib.compactUpTo], by simp [Lib.compactUpTo], fun x h => by omega⟩
  | m + 1, hm => by
    obtain ⟨h1, h2, h3⟩ := compact_inv hs m (by omega)
    have hx : zs[m]? = some zs[m] := List.getElem?_eq_getElem (by omega)
    have hd : zs.toArray[m]! = zs[m] := by simp [show m < zs.length by omega]
    rw [Lib.compactUpTo_succ, hd]
    have htk : ∀ i, i ∈ zs.take (m + 1) ↔ i ∈ zs.take m ∨ i = zs[m] := fun i => by rw [List.take_add_one, hx, List.mem_append]; simp only [Option.toList_some, List.mem_singleton]
    cases hk : Lib.keeps zs.toArray m with
    | true =>
      simp only [if_true]
      have hlt : ∀ y ∈ Lib.compactUpTo zs.toArray m, y < zs[m] := by
        intro y hy
        rcases Nat.eq_zero_or_pos m with h0 | h0
        · subst h0; simp [Lib.compactUpTo] at hy
        · have hp : zs[m - 1]? = some zs[m - 1] := List.getElem?_eq_getElem (by omega)
          have hle := h3 _ h0 hp y hy
          have hle2 : zs[m - 1] ≤ zs[m] := (List.pairwise_iff_getElem.1 hs) (m - 1) m (by omega) (by omega) (by omega)
          have hne : zs[m] ≠ zs[m - 1] := by
            have : zs.toArray[m]! ≠ zs.toArray[m - 1]! := by
              simp only [Lib.keeps, decide_eq_true_eq] at hk
              exact hk.resolve_left (by omega)
            simpa [show m < zs.length by omega, show m - 1 < zs.length by omega] using this
          omega
      refine ⟨?_, ?_, ?_⟩
      · rw [List.pairwise_append]
        exact ⟨h1, by simp, fun a ha b hb => by simp at hb; subst hb; exact hlt a ha⟩
      · intro i; rw [List.mem_append, htk, h2]; simp
      · intro x _ hxx y hy
        rw [show m + 1 - 1 = m by omega, hx] at hxx
        cases hxx
        rw [List.mem_append] at hy
        rcases hy with hy | hy
        · have := hlt y hy; omega
        · simp at hy; omega
    | false =>
      simp only [Bool.false_eq_true, if_false, List.append_nil]
      have hm0 : 0 < m := by
        rcases Nat.eq_zero_or_pos m with h0 | h0
        · subst h0; simp [Lib.keeps] at hk
        · exact h0
      have heq : zs[m] = zs[m - 1] := by
        have : ¬ (m = 0 ∨ zs.toArray[m]! ≠ zs.toArray[m - 1]!) := by simpa [Lib.keeps] using hk
        have h : zs.toArray[m]! = zs.toArray[m - 1]! := by
          apply Classical.byContradiction; intro h; exact this (.inr h)
        simpa [show m < zs.length by omega, show m - 1 < zs.length by omega] using h
      have hp : zs[m - 1]? = some zs[m - 1] := List.getElem?_eq_getElem (by omega)
      refine ⟨h1, ?_, ?_⟩
      · intro i
        rw [htk, h2]
        constructor
        · exact .inl
        · rintro (h | h)
          · exact h
          · rw [h, heq]
            have : zs[m - 1] ∈ zs.take m := by
              rw [List.mem_take_iff_getElem]
              exact ⟨m - 1, by omega, rfl⟩
            exact this
      · intro x _ hxx y hy
        rw [show m + 1 - 1 = m by omega, hx] at hxx
        cases hxx
        rw [heq]
        exact h3 _ hm0 hp y hy
def iset (er : List Int) : List Int := Lib.compact (zsort er)
theorem iset_lt (er : List Int) : (iset er).Pairwise (· < ·) := (compact_inv (zsort_sorted er) _ (Nat.le_refl _)).1
theorem iset_mem {er : List Int} {i : Int} : i ∈ iset er ↔ i ∈ er := by
  have := (compact_inv (zsort_sorted er) _ (Nat.le_refl _)).2.1 i
  rw [List.take_length, zsort_mem] at this
  exact this
theorem lt_unique : ∀ {a b : List Int}, a.Pairwise (· < ·) → b.Pairwise (· < ·) → (∀ i, i ∈ a ↔ i ∈ b) → a = b
  | [], [], _, _, _ => rfl
  | [], y :: b, _, _, h => absurd ((h y).2 (by simp)) (by simp)
  | x :: a, [], _, _, h => absurd ((h x).1 (by simp)) (by simp)
  | x :: a, y :: b, ha, hb, h => by
    rw [List.pairwise_cons] at ha hb
    have hxy : x = y := by
      have h1 := (h x).1 (by simp)
      have h2 := (h y).2 (by simp)
      rcases List.mem_cons.1 h1 with e | e
      · exact e
      · rcases List.mem_cons.1 h2 with e2 | e2
        · exact e2.symm
        · have := hb.1 x e; have := ha.1 y e2; omega
    subst hxy
    rw [lt_unique ha.2 hb.2 fun i => ?_]
    constructor
    · intro hi
      rcases List.mem_cons.1 ((h i).1 (List.mem_cons_of_mem _ hi)) with e | e
      · subst e; have := ha.1 i hi; omega
      · exact e
    · intro hi
      rcases List.mem_cons.1 ((h i).2 (List.mem_cons_of_mem _ hi)) with e | e
      · subst e; have := hb.1 i hi; omega
      · exact e
theorem iset_congr {a b : List Int} (h : ∀ i, i ∈ a ↔ i ∈ b) : iset a = iset b := lt_unique (iset_lt a) (iset_lt b) fun i => by rw [iset_mem, iset_mem, h i]
end Go.Proofs.Ytdcjionaedcfoaa.Range
