/- The two ways answer alike: plainly. -/
import Derived.Test.YtdcjionaedcfoaaSug
import Derived.Test.YtdcjionaedcfoaaLawS2
set_option linter.unusedVariables false
set_option linter.unusedSimpArgs false
namespace Go.Proofs.Ytdcjionaedcfoaa.Solve
open Go.Proofs.Ytdcjionaedcfoaa.Gf Go.Proofs.Ytdcjionaedcfoaa.Poly Go.Proofs.Ytdcjionaedcfoaa.Rs Go.Proofs.Ytdcjionaedcfoaa.L Go.Proofs.Ytdcjionaedcfoaa.Range

theorem subLen {α : Type} [DecidableEq α] : ∀ {l m : List α}, l.Nodup → (∀ x ∈ l, x ∈ m) → l.length ≤ m.length
  | [], m, _, _ => by simp
  | a :: l, m, hd, hs => by
    rw [List.nodup_cons] at hd
    have ha := hs a (by simp)
    have h1 := subLen (m := m.erase a) hd.2 fun x hx => by
      have hne : x ≠ a := fun e => hd.1 (by rw [← e]; exact hx)
      exact (List.mem_erase_of_ne hne).2 (hs x (by simp [hx]))
    rw [List.length_erase_of_mem ha] at h1
    have := List.length_pos_of_mem ha
    rw [List.length_cons]; omega
theorem esetNodup {er : List Int} {n : Nat} (h : er.any (outB n) = false) : (eset er).Nodup := by
  have h1 := iset_lt er
  have h2 : ∀ i ∈ iset er, 0 ≤ i := eset_nn h
  show ((iset er).map Int.toNat).Nodup
  generalize iset er = l at *
  induction l with
  | nil => simp
  | cons a l ih =>
    rw [List.pairwise_cons] at h1
    rw [List.map_cons, List.nodup_cons]
    refine ⟨fun hm => ?_, ih h1.2 fun i hi => h2 i (by simp [hi])⟩
    obtain ⟨b, hb, e⟩ := List.mem_map.1 hm
    have := h1.1 b hb
    have := h2 a (by simp)
    have := h2 b (by simp [hb])
    omega
theorem mend_of_found {n p : Nat} {er : List Nat} {word c loc : List UInt8} {most : Int} (hn : n ≤ 255) (hw : word.length = n) (hc : c.length = n) (hright : rightB p c = true) (hd : er.Nodup) (hr : ∀ i ∈ er, i < n)
    (hle : er.length + 2 * (oset n er word c).length ≤ p) (h1 : most = ((mset n er word c).length : Int)) (h2 : Eqv (kk loc) (plocs ((mset n er word c).map (Xp n)))) :
    pmend n p er (syn p word) loc word most = some c := by
  have hperm := mset_perm (word := word) (c := c) hd hr
  have hlen : (mset n er word c).length = er.length + (oset n er word c).length := by rw [← hperm.length_eq, List.length_append]
  have hpl := places_are hn h2
  rw [h1, pmend, hpl, if_neg (by simp), punlike, unlikeF_filter]
  have ho : ((mset n er word c).filter fun i => !decide (i ∈ er)).length = (oset n er word c).length := rfl
  rw [ho, if_neg (by omega)]
  obtain ⟨r, h3, h4, h5⟩ := mendF_all n (pomega (syn p word) loc p) (pderived loc) (fun i => (errAt word c i).v) (mset n er word c) word (mset_nodup n er word c) (fun i hi => by have := mset_lt hi; omega)
    (fun i hi => by_is hn hw hc hright (by omega) h2 hi)
  rw [h3]
  congr 1
  apply List.ext_getElem (by omega)
  intro j hj1 hj2
  have h6 := h5 j
  rw [List.getD_eq_getElem?_getD, List.getElem?_eq_getElem hj1] at h6
  have hcj : c[j] = c.getD j 0 := by rw [List.getD_eq_getElem?_getD, List.getElem?_eq_getElem hj2]; rfl
  show r[j] = c[j]
  rw [hcj]
  have h7 : r[j] = if j ∈ mset n er word c then gadd [word.getD j 0, (errAt word c j).v] else word.getD j 0 := h6
  rw [h7]
  by_cases hm : j ∈ mset n er word c
  · rw [if_pos hm]
    apply k_eq.1
    rw [k_add]
    show (⟨word.getD j 0⟩ : K) + errAt word c j = _
    rw [errAt, K.add_add_self]
  · rw [if_neg hm]
    have hdf : differ word c j = false := by
      cases hdf : differ word c j with
      | false => rfl
      | true => exact absurd (List.mem_filter.2 ⟨by simp; omega, by rw [msetB, hdf, Bool.or_true]⟩) hm
    simpa [differ] using hdf
theorem mend_complete2 {n p : Nat} {er : List Nat} {word c : List UInt8} (hn : n ≤ 255) (hp : p ≤ 64) (hp0 : 0 < p) (hw : word.length = n) (hc : c.length = n) (hright : rightB p c = true) (hd : er.Nodup) (hr : ∀ i ∈ er, i < n)
    (hle : er.length + 2 * (oset n er word c).length ≤ p) :
    pmend n p er (syn p word) (peuclid (syn p word) er.length p (ploc n er)).2 word (peuclid (syn p word) er.length p (ploc n er)).1 = some c := by
  obtain ⟨h1, h2⟩ := found2 hn hp hw hc hright hd hr hle hp0
  exact mend_of_found hn hw hc hright hd hr hle h1 h2
theorem mendF_only (n : Nat) (om der : List UInt8) : ∀ (l : List Nat) (w out : List UInt8), mendF n om der l w = some out → ∀ j, j ∉ l → out.getD j 0 = w.getD j 0
  | [], w, out, h, j, _ => by rw [mendF] at h; cases h; rfl
  | i :: l, w, out, h, j, hj => by
    rw [mendF] at h
    split at h
    · cases h
    · rw [mendF_only n om der l _ _ h j (fun hh => hj (by simp [hh]))]
      rw [List.getD_eq_getElem?_getD, List.getD_eq_getElem?_getD, List.getElem?_set_ne (fun e => hj (by simp [e])), ← List.getD_eq_getElem?_getD]
/-- What is mended lies within what may be. -/
theorem mend_within {n p : Nat} {er : List Nat} {s loc word out : List UInt8} {most : Int} (h : pmend n p er s loc word most = some out) : er.length + 2 * (oset n er word out).length ≤ p := by
  unfold pmend at h
  split at h
  · cases h
  · split at h
    · cases h
    · next h2 =>
      have h3 := mendF_only _ _ _ _ _ _ h
      rw [punlike, unlikeF_filter, Nat.zero_add] at h2
      have h4 : (oset n er word out).length ≤ ((pplaces n loc).filter fun i => !decide (i ∈ er)).length := by
        refine subLen (List.Pairwise.filter _ (mset_nodup n er word out)) fun i hi => ?_
        have h5 := List.mem_filter.1 hi
        have h6 := (List.mem_filter.1 h5.1).2
        have h7 : i ∉ er := by simpa using h5.2
        rw [List.mem_filter]
        refine ⟨?_, h5.2⟩
        apply Classical.byContradiction
        intro hno
        have h8 : differ word out i = false := by rw [differ, h3 i hno]; simp
        rw [msetB, h8, Bool.or_false] at h6
        exact h7 (by simpa using h6)
      omega
/-- A way that finds what is to be found. -/
def Finds (F : Way) : Prop := ∀ (n p : Nat) (er : List Nat) (word c : List UInt8), n ≤ 255 → p ≤ 64 → 0 < p → word.length = n → c.length = n → rightB p c = true → er.Nodup → (∀ i ∈ er, i < n) → er.length + 2 * (oset n er word c).length ≤ p →
  pmend n p er (syn p word) (F (syn p word) er.length p (ploc n er)).2 word (F (syn p word) er.length p (ploc n er)).1 = some c
theorem finds_search : Finds psearch := fun n p er word c hn hp hp0 hw hc hr hd hi hle => mend_complete hn hw hc hr hd hi hle
theorem finds_euclid : Finds peuclid := fun n p er word c hn hp hp0 hw hc hr hd hi hle => mend_complete2 hn hp hp0 hw hc hr hd hi hle
theorem ways_alike {F G : Way} (hF : Finds F) (hG : Finds G) (n k : Nat) (word : List UInt8) (er : List Int) (hn : n ≤ 255) (hp : n - k ≤ 64) (hp0 : 0 < n - k) : LawS.pmendX F n k word er = LawS.pmendX G n k word er := by
  unfold LawS.pmendX
  split
  · next hw =>
    unfold pmendall
    split
    · rfl
    · next h1 =>
      have h1' : er.any (outB n) = false := by simpa using h1
      split
      · rfl
      · split
        · rfl
        · have hd := esetNodup h1'
          have hr := eset_lt h1'
          generalize eset er = es at *
          by_cases hex : ∃ c : List UInt8, c.length = n ∧ rightB (n - k) c = true ∧ es.length + 2 * (oset n es word c).length ≤ n - k
          · obtain ⟨c, hc, hright, hle⟩ := hex
            rw [hF n (n - k) es word c hn hp hp0 hw hc hright hd hr hle, hG n (n - k) es word c hn hp hp0 hw hc hright hd hr hle]
          · have side : ∀ (loc : List UInt8) (most : Int), fin word (n - k) (pmend n (n - k) es (syn (n - k) word) loc word most) = (8, [], []) := by
              intro loc most
              cases hm : pmend n (n - k) es (syn (n - k) word) loc word most with
              | none => rfl
              | some out =>
                have h5 := mend_within hm
                have h6 := pmend_len hm out rfl
                by_cases hro : rightB (n - k) out = true
                · exact absurd ⟨out, by rw [h6, hw], hro, h5⟩ hex
                · rw [fin, if_neg hro]
            exact (side _ _).trans (side _ _).symm
  · rfl
end Go.Proofs.Ytdcjionaedcfoaa.Solve
