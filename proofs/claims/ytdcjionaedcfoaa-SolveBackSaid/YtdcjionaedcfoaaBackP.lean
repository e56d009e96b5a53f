/- A codeword that was spoilt within what may be is mended to itself: plainly. -/
import Derived.Test.YtdcjionaedcfoaaBmN
import Derived.Test.YtdcjionaedcfoaaEnc
import Derived.Test.YtdcjionaedcfoaaEset
import Derived.Test.YtdcjionaedcfoaaSet
import Derived.Test.YtdcjionaedcfoaaSolve13
set_option linter.unusedVariables false
set_option linter.unusedSimpArgs false
namespace Go.Proofs.Ytdcjionaedcfoaa.Solve
open Go.Proofs.Ytdcjionaedcfoaa.Gf Go.Proofs.Ytdcjionaedcfoaa.Poly Go.Proofs.Ytdcjionaedcfoaa.Rs Go.Proofs.Ytdcjionaedcfoaa.L Go.Proofs.Ytdcjionaedcfoaa.Range

theorem sub_len {α : Type} [DecidableEq α] : ∀ {l m : List α}, l.Nodup → (∀ x ∈ l, x ∈ m) → l.length ≤ m.length
  | [], m, _, _ => by simp
  | a :: l, m, hd, hs => by
    rw [List.nodup_cons] at hd
    have ha := hs a (by simp)
    have h1 := sub_len (m := m.erase a) hd.2 fun x hx => by
      have hne : x ≠ a := fun e => hd.1 (by rw [← e]; exact hx)
      exact (List.mem_erase_of_ne hne).2 (hs x (by simp [hx]))
    rw [List.length_erase_of_mem ha] at h1
    have := List.length_pos_of_mem ha
    rw [List.length_cons]; omega
theorem same_len {α : Type} [DecidableEq α] {l m : List α} (hl : l.Nodup) (hm : m.Nodup) (h : ∀ x, x ∈ l ↔ x ∈ m) : l.length = m.length :=
  Nat.le_antisymm (sub_len hl fun x hx => (h x).1 hx) (sub_len hm fun x hx => (h x).2 hx)
theorem iset_nodup (er : List Int) : (iset er).Nodup := (iset_lt er).imp fun h => by omega
theorem eset_nodup {er : List Int} {n : Nat} (h : er.any (outB n) = false) : (eset er).Nodup := by
  have h1 := iset_lt er
  have h2 : ∀ i ∈ iset er, 0 ≤ i := eset_nn h
  show ((iset er).map Int.toNat).Nodup
  generalize iset er = l at *
  induction l with
  | nil => simp
  | cons a l ih =>
    rw [List.pairwise_cons] at h1
    rw [List.map_cons, List.nodup_cons]
    refine ⟨fun hm => ?_, ih h1.2 fun i hi => h2 i (by simp [hi])⟩
    obtain ⟨b, hb, e⟩ := List.mem_map.1 hm
    have := h1.1 b hb
    have := h2 a (by simp)
    have := h2 b (by simp [hb])
    omega
theorem eset_mem {er : List Int} {n : Nat} (h : er.any (outB n) = false) {i : Nat} : i ∈ eset er ↔ (i : Int) ∈ er := by
  have h2 : ∀ i ∈ iset er, 0 ≤ i := eset_nn h
  show i ∈ (iset er).map Int.toNat ↔ _
  rw [← iset_mem, List.mem_map]
  constructor
  · rintro ⟨j, hj, rfl⟩; have := h2 j hj; rwa [Int.toNat_of_nonneg this]
  · exact fun hi => ⟨_, hi, by simp⟩
theorem eset_len (er : List Int) : (eset er).length = (iset er).length := by show ((iset er).map Int.toNat).length = _; simp
/-- Two right words near one word are one. -/
theorem right_unique {n p : Nat} {er : List Nat} {word c d : List UInt8} (hn : n ≤ 255) (hw : word.length = n) (hc : c.length = n) (hdl : d.length = n) (h1 : rightB p c = true) (h2 : rightB p d = true) (hd : er.Nodup) (hr : ∀ i ∈ er, i < n)
    (hle : er.length + 2 * (oset n er word c).length ≤ p) (hle2 : er.length + 2 * (oset n er word d).length ≤ p) : c = d := by
  have a := mend_complete hn hw hc h1 hd hr hle
  have b := mend_complete hn hw hdl h2 hd hr hle2
  rw [a] at b; cases b; rfl
theorem oset_self (n : Nat) (er : List Nat) (word : List UInt8) : oset n er word word = [] := by
  rw [oset, List.filter_eq_nil_iff]
  intro i hi
  have := (List.mem_filter.1 hi).2
  simp [msetB, differ] at this
  simp [this]
theorem punlikes_self (w : List UInt8) : punlikes w w = [] := by
  rw [punlikes, List.filter_eq_nil_iff]
  intro i _; simp [differ]
theorem mend_back {n k : Nat} (hn : n ≤ 255) {wd bad : List UInt8} {er O : List Int} (hw : wd.length = n) (hb : bad.length = n) (hr : rightB (n - k) wd = true) (hout : er.any (outB n) = false)
    (hO : ∀ i : Nat, i < n → differ bad wd i = true → (i : Int) ∈ er ∨ (i : Int) ∈ O) (hle : (eset er).length + 2 * O.length ≤ n - k) : pmendall psearch n k bad er = (0, wd, punlikes bad wd) := by
  have hd := eset_nodup hout
  have hlt := eset_lt hout
  have hos : (oset n (eset er) bad wd).length ≤ O.length := by
    have h1 : ((oset n (eset er) bad wd).map fun (i : Nat) => (i : Int)).length ≤ O.length := by
      refine sub_len ?_ ?_
      · have h2 : (oset n (eset er) bad wd).Nodup := List.Pairwise.filter _ (mset_nodup n _ _ _)
        exact List.Pairwise.map _ (fun a b h e => h (by exact_mod_cast e)) h2
      · intro x hx
        obtain ⟨i, hi, rfl⟩ := List.mem_map.1 hx
        obtain ⟨h3, h4⟩ := List.mem_filter.1 hi
        obtain ⟨h5, h6⟩ := List.mem_filter.1 h3
        have h7 : i ∉ eset er := by simpa using h4
        have h8 : differ bad wd i = true := by simpa [msetB, h7] using h6
        exact (hO i (by simpa using h5) h8).resolve_left fun h => h7 ((eset_mem hout).2 h)
    simpa using h1
  have hc := mend_complete (p := n - k) hn hb hw hr hd hlt (by omega)
  unfold pmendall
  rw [if_neg (by rw [hout]; simp), if_neg (by omega)]
  by_cases hrb : rightB (n - k) bad = true
  · rw [if_pos hrb]
    have : bad = wd := right_unique hn hb hb hw hrb hr hd hlt (by rw [oset_self]; simp; omega) (by omega)
    subst this
    rw [punlikes_self]
  · rw [if_neg hrb, hc]
    simp only [hr, if_true]
/-- The set that a loop gathers. -/
def gath (l : List Int) : List Int := l.foldl addS []
theorem mem_foldS {j : Int} : ∀ (l S : List Int), j ∈ l.foldl addS S ↔ j ∈ S ∨ j ∈ l
  | [], S => by simp
  | a :: l, S => by rw [List.foldl_cons, mem_foldS l, mem_addS, List.mem_cons]; exact or_assoc
theorem foldS_nodup : ∀ (l S : List Int), S.Nodup → (l.foldl addS S).Nodup
  | [], S, h => h
  | a :: l, S, h => foldS_nodup l _ (addS_nodup h)
theorem gath_len (er : List Int) : (gath er).length = (eset er).length := by
  rw [eset_len]
  exact same_len (foldS_nodup er [] List.nodup_nil) (iset_nodup er) fun x => by rw [gath, mem_foldS, iset_mem]; simp
theorem differ_comm (a b : List UInt8) (i : Nat) : differ a b i = differ b a i := by
  unfold differ; generalize a.getD i 0 = x; generalize b.getD i 0 = y
  by_cases h : x = y
  · rw [h]
  · have h1 : (x != y) = true := by simpa using h
    have h2 : (y != x) = true := by simpa using fun e => h e.symm
    rw [h1, h2]
/-- The places so far. -/
def unl (a b : List UInt8) (k : Nat) : List Nat := (List.range k).filter (differ a b)
theorem unl_at {a b : List UInt8} {n k : Nat} (hk : k < n) (hd : differ a b k = true) : (unl a b n)[(unl a b k).length]? = some k := by
  have : List.range n = List.range k ++ (k :: (List.range (n - k - 1)).map (· + (k + 1))) := by
    apply List.ext_getElem
    · simp; omega
    · intro i h1 h2
      rw [List.getElem_range, List.getElem_append]
      split
      · simp
      · next h =>
        simp only [List.length_range] at h
        rw [List.getElem_cons]
        split
        · next h3 => simp at h3; omega
        · next h3 => simp at h3 ⊢; omega
  unfold unl
  rw [this, List.filter_append, List.filter_cons_of_pos hd, List.getElem?_append_right (Nat.le_refl _)]
  simp
end Go.Proofs.Ytdcjionaedcfoaa.Solve
