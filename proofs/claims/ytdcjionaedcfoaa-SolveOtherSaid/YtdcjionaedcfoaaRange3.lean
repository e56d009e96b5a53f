/- slices.Collect, Sorted, Compact at int, over slices.Values. -/
import Derived.Test.YtdcjionaedcfoaaRange2
import Derived.Sort.OwnSortedInts
set_option linter.unusedVariables false
set_option linter.unusedSimpArgs false
namespace Go.Proofs.Ytdcjionaedcfoaa.Range
open Go.RowKit Go.Shelf Go.Proofs.Ytdcjionaedcfoaa.L Go.Sort

attribute [local go_sem] Oper.semAt_some
set_option maxRecDepth 100000 in
set_option maxHeartbeats 1000000 in
theorem collect_any (Bs : Nat) (sv : Value) (zs : List Int) (hreach : zs.length ≤ 1000000) (w : World) (hBs : w.cell? ⟨Bs, 0, none⟩ = some sv) (hI : Ints w.heap.size w sv zs) :
    Calls Try.prog 200 #[.func (.func 202) #[] #[.pointer (some ⟨Bs, 0, none⟩)]] w fun e w' => ∃ v : Value, e = .returned v ∧ w'.ownsRow w.heap.size 3 1 v zs.length (zs.map enc) ∧ (v = .slice none 0 0 ↔ zs = []) ∧ Below w.heap.size w w' := by
  have cA := As.mk (callsIn_wide.1 (appendSeq_in Fence.wide 4 trivial trivial rfl (by omega) Bs sv zs hreach w hBs hI))
  clear hBs hI
  go_enter Try.func200, Try.ntmps200
  go_wp2_with fail
  refine cA.out.mono ?_
  rintro e w' ⟨v, rfl, hrow, hnil, hb⟩
  have HR := As.mk hrow
  have HN := As.mk hnil
  have HB := As.mk hb
  clear hrow hnil hb
  go_wp2_with fail
  go_ret
  exact ⟨v, rfl, HR.out, HN.out, HB.out⟩
def zsort (zs : List Int) : List Int := zs.mergeSort fun x y => decide (x ≤ y)
set_option maxRecDepth 100000 in
set_option maxHeartbeats 1000000 in
theorem sorted_any (Bs : Nat) (sv : Value) (zs : List Int) (hreach : zs.length ≤ 1000000) (w : World) (hBs : w.cell? ⟨Bs, 0, none⟩ = some sv) (hI : Ints w.heap.size w sv zs) :
    Calls Try.prog 153 #[.func (.func 202) #[] #[.pointer (some ⟨Bs, 0, none⟩)]] w fun e w' => ∃ v : Value, e = .returned v ∧ w'.ownsRow w.heap.size 3 1 v zs.length ((zsort zs).map enc) ∧ Below w.heap.size w w' := by
  go_enter Try.func153, Try.ntmps153
  go_wp2_with fail
  refine (collect_any Bs sv zs hreach w hBs hI).mono ?_
  rintro e W ⟨v, rfl, hrow, hnil, hb⟩
  have hlen : (zsort zs).length = zs.length := List.length_mergeSort _
  rcases hrow.2 with ⟨rfl, hz⟩ | ⟨gb, cap, cur, rfl, hbase, hgb, r1, r2, r3, r4⟩
  · have hzs : zs = [] := List.eq_nil_of_length_eq_zero hz
    subst hzs
    have HB := As.mk hb
    have HR := As.mk hrow
    clear hb hrow hnil hlen
    go_wp2_with (go_at_call 201; refine (Try.slices_Sort_int_none none 0 W).mono ?_; rintro e w' ⟨rfl, rfl⟩)
    go_ret
    exact ⟨.slice none 0 0, rfl, by simpa [zsort] using HR.out, HB.out⟩
  · have hH := holds_of_blockI hgb (by simpa using r4)
    have hgl : gb < W.heap.size := (Array.getElem?_eq_some_iff.1 hgb).1
    have HB := As.mk hb
    have HG := As.mk hgb
    have HL := As.mk hlen
    have cS := As.mk (Try.slices_Sort_int gb 0 cap zs W hH hgl (by omega))
    clear hb hgb hlen hH hnil hrow r4
    go_wp2_with (go_at_call 201; refine cS.out.mono ?_; rintro e w' ⟨rfl, nn, os, rfl⟩)
    go_ret
    exact ⟨_, rfl, ownsRow_sortedI (ts := zsort zs) HL.out hbase HG.out r1 r2 r3, HB.out.grown (grownBy_sortedI _) HB.out.size (fun j hj => by cases hj; exact hbase)⟩
theorem values_any (a : Option Addr) (len cap : Nat) (w : World) :
    Calls Try.prog 154 #[.slice a len cap] w fun e w' => e = .returned (.func (.func 202) #[] #[.pointer (some ⟨w.heap.size, 0, none⟩)]) ∧ w' = w.alloc (.cells #[.slice a len cap] 45) :=
  callsIn_wide.1 (values_in Fence.wide 4 trivial rfl a len cap w)

/-! ### Compact -/
theorem compact_le (zs : List Int) : (Lib.compact zs).length ≤ zs.length := by
  unfold Lib.compact Lib.compactUpTo
  rw [List.length_map]
  have := List.length_filter_le (Lib.keeps zs.toArray) (List.range zs.length)
  simpa using this
theorem ownV_shrink {w : World} {base n m c : Nat} {t : TypeId} {A : Option Addr} {us : List Value} (h : w.ownsRow base t 1 (.slice (A) n c) n us) (hA : A ≠ none) (hm : m ≤ n) : w.ownsRow base t 1 (.slice A m c) m (us.take m) := by
  obtain ⟨h1, h2⟩ := h
  refine ⟨by simp; omega, ?_⟩
  rcases h2 with ⟨he, h0⟩ | ⟨g, cap, cur, he, hb, hh, k1, k2, k3, k4⟩
  · injection he with e1 e2 e3; exact absurd e1 hA
  · injection he with e1 e2 e3
    subst e1 e3
    exact .inr ⟨g, c, cur, rfl, hb, hh, by omega, k2, k3, by rw [← k4, List.take_take]; congr 1; omega⟩
set_option maxRecDepth 100000 in
theorem compact_own (base n : Nat) (v : Value) (zs : List Int) (w : World) (hb : base ≤ w.heap.size) (hn : n = zs.length) (h : w.ownsRow base 3 1 v n (zs.map enc)) :
    Calls Try.prog 152 #[v] w fun e w' => ∃ A c, e = .returned (.slice A (Lib.compact zs).length c) ∧ w'.ownsRow base 3 1 (.slice A (Lib.compact zs).length c) (Lib.compact zs).length ((Lib.compact zs).map enc) ∧ Below base w w' := by
  subst hn
  rcases h.2 with ⟨rfl, hz⟩ | ⟨gb, cap, cur, rfl, hbase, hgb, r1, r2, r3, r4⟩
  · have hzs : zs = [] := List.eq_nil_of_length_eq_zero hz
    subst hzs
    refine (Try.slices_Compact_int_empty none 0 w).mono ?_
    rintro e w' ⟨rfl, rfl⟩
    exact ⟨none, 0, rfl, h, Below.refl _ _⟩
  · have hH := holds_of_blockI hgb (by simpa using r4)
    have hle := compact_le zs
    refine (Try.slices_Compact_int gb 0 cap zs w hH (by have := r2; simp only [maxLen] at this; omega) r1).mono ?_
    rintro e w' ⟨rfl, q, rfl⟩
    have hsz : (Lib.compact zs ++ List.replicate (zs.length - (Lib.compact zs).length) 0).length = zs.length := by simp; omega
    have ho := ownsRow_sortedI (n := q) (os := #[]) (ts := Lib.compact zs ++ List.replicate (zs.length - (Lib.compact zs).length) 0) hsz hbase hgb r1 r2 r3
    have hg := grownBy_sortedI (w := w) (g := gb) (n := q) (os := #[]) (Lib.compact zs ++ List.replicate (zs.length - (Lib.compact zs).length) 0).toArray
    have hgrow : ∀ W : World, grow W #[] = W := fun W => by simp [grow]
    rw [hgrow] at ho hg
    refine ⟨_, _, rfl, ?_, (Below.refl base w).grown hg hb (fun j hj => by cases hj; exact hbase)⟩
    have := ownV_shrink ho (by simp) hle
    rw [List.map_append, List.take_append_of_le_length (by simp), List.take_of_length_le (by simp)] at this
    exact this
end Go.Proofs.Ytdcjionaedcfoaa.Range
