/- Whatever was spoilt, within what may be, is mended: plainly. -/
import Derived.Test.YtdcjionaedcfoaaBmM
set_option linter.unusedVariables false
set_option linter.unusedSimpArgs false
namespace Go.Proofs.Ytdcjionaedcfoaa.Solve
open Go.Proofs.Ytdcjionaedcfoaa.Gf Go.Proofs.Ytdcjionaedcfoaa.Gf.K Go.Proofs.Ytdcjionaedcfoaa.Poly Go.Proofs.Ytdcjionaedcfoaa.Rs

/-! ### What is found is what was spoilt -/
def errAt (word c : List UInt8) (i : Nat) : K := ⟨word.getD i 0⟩ + ⟨c.getD i 0⟩
theorem errAt_zero {word c : List UInt8} {i : Nat} : errAt word c i = 0 ↔ differ word c i = false := by
  unfold errAt differ
  constructor
  · intro h; have := k_eq.1 (K.eq_of_add h); rw [this]; simp
  · intro h
    have : word.getD i 0 = c.getD i 0 := by simpa using h
    rw [this, K.add_self]
/-- The places that are erased or differ. -/
def msetB (er : List Nat) (word c : List UInt8) (i : Nat) : Bool := decide (i ∈ er) || differ word c i
def mset (n : Nat) (er : List Nat) (word c : List UInt8) : List Nat := (List.range n).filter (msetB er word c)
def oset (n : Nat) (er : List Nat) (word c : List UInt8) : List Nat := (mset n er word c).filter fun i => !decide (i ∈ er)
theorem mset_nodup (n : Nat) (er : List Nat) (word c : List UInt8) : (mset n er word c).Nodup := List.Pairwise.filter _ List.nodup_range
theorem mset_lt {n : Nat} {er : List Nat} {word c : List UInt8} {i : Nat} (h : i ∈ mset n er word c) : i < n := by simpa using (List.mem_filter.1 h).1
theorem mset_perm {n : Nat} {er : List Nat} {word c : List UInt8} (hd : er.Nodup) (hr : ∀ i ∈ er, i < n) : List.Perm (er ++ oset n er word c) (mset n er word c) := by
  refine List.Perm.trans (List.Perm.append_right _ ?_) (List.filter_append_perm (fun i => decide (i ∈ er)) _)
  refine (List.perm_ext_iff_of_nodup hd (List.Pairwise.filter _ (mset_nodup n er word c))).2 fun i => ?_
  rw [List.mem_filter, mset, List.mem_filter]
  simp only [List.mem_range, msetB, decide_eq_true_eq, Bool.or_eq_true]
  constructor
  · exact fun h => ⟨⟨hr i h, .inl h⟩, h⟩
  · exact fun h => h.2
theorem mset_syn {n p : Nat} {er : List Nat} {word c : List UInt8} (hw : word.length = n) (hc : c.length = n) (hright : rightB p c = true) (k : Nat) (hk : k < p) :
    co (kk (syn p word)) k = sumL (mset n er word c) (fun i => errAt word c i * pow (Xp n i) k) := by
  have h1 := ev_word_sum word n hw k
  have h2 := (ev_word_sum c n hc k).symm.trans (right_zero hright k hk)
  rw [syn_co word p k hk, h1, ← K.add_zero (sumK n _), ← h2, ← sumK_add, mset, sumL_filter, sumL_range]
  · exact sumK_congr fun i hi => by rw [errAt, K.add_mul]
  · intro i hi hb
    have : errAt word c i = 0 := errAt_zero.2 (by simp only [msetB, Bool.or_eq_false_iff] at hb; exact hb.2)
    rw [this, K.zero_mul]
section
variable {n p : Nat} {er : List Nat} {word c : List UInt8}
/-- All but one. -/
def lamI (n : Nat) (M : List Nat) (i : Nat) : List K := plocs ((M.map (Xp n)).erase (Xp n i))
theorem lamI_deg {M : List Nat} {i : Nat} (hi : i ∈ M) : Deg (lamI n M i) M.length := by
  have := plocs_deg ((M.map (Xp n)).erase (Xp n i))
  rw [List.length_erase_of_mem (List.mem_map.2 ⟨i, hi, rfl⟩), List.length_map] at this
  have h0 : 0 < M.length := List.length_pos_of_mem hi
  exact this.mono (by omega)
def omW (n : Nat) (er : List Nat) (word c : List UInt8) : List K := psum (mset n er word c) fun i => psc (errAt word c i) (lamI n (mset n er word c) i)
theorem omW_deg : Deg (omW n er word c) (mset n er word c).length := fun i hi => by
  rw [omW, co_psum]
  exact sumL_zero fun a ha => by rw [co_psc, lamI_deg ha i hi, K.mul_zero]
theorem key_co (hw : word.length = n) (hc : c.length = n) (hright : rightB p c = true) (k : Nat) (hk : k < p) :
    co (pm (plocs ((mset n er word c).map (Xp n))) (kk (syn p word))) k = co (omW n er word c) k := by
  rw [co_pm_sumL (mset n er word c) (errAt word c) (fun i => geo p (Xp n i)) _ _ p (fun m hm => by
    rw [mset_syn (er := er) hw hc hright m hm]; exact sumL_congr fun i hi => by rw [co_geo hm]) k hk]
  rw [omW, co_psum]
  exact sumL_congr fun i hi => by rw [co_psc, plocs_geo (List.mem_map.2 ⟨i, hi, rfl⟩) p k hk]; rfl
def xinv (n i : Nat) : K := inv (Xp n i)
theorem xinv_ne (n i : Nat) : xinv n i ≠ 0 := inv_ne _
theorem lam_self {M : List Nat} (hn : n ≤ 255) (hM : ∀ i ∈ M, i < n) (hd : M.Nodup) {i : Nat} (hi : i ∈ M) : ev (lamI n M i) (xinv n i) ≠ 0 := fun h => by
  obtain ⟨y, hy, e⟩ := (ev_plocs_zero _ _).1 h
  have hy2 := (List.Nodup.mem_erase_iff (Xp_nodup hn hM hd)).1 hy
  refine hy2.1 ?_
  have h1 : xinv n i * y = xinv n i * Xp n i := by rw [K.mul_comm, e, xinv, inv_mul (Xp_ne n i)]
  exact K.mul_cancel (xinv_ne n i) h1
theorem lam_other {M : List Nat} (hn : n ≤ 255) (hM : ∀ i ∈ M, i < n) (hd : M.Nodup) {i j : Nat} (hi : i ∈ M) (hj : j ∈ M) (hne : j ≠ i) : ev (lamI n M j) (xinv n i) = 0 := by
  refine (ev_plocs_zero _ _).2 ⟨Xp n i, ?_, mul_inv (Xp_ne n i)⟩
  exact (List.Nodup.mem_erase_iff (Xp_nodup hn hM hd)).2 ⟨fun h => hne (Xp_inj hn (hM i hi) (hM j hj) h).symm, List.mem_map.2 ⟨i, hi, rfl⟩⟩
theorem omW_ev (hn : n ≤ 255) {i : Nat} (hi : i ∈ mset n er word c) : ev (omW n er word c) (xinv n i) = errAt word c i * ev (lamI n (mset n er word c) i) (xinv n i) := by
  rw [omW, ev_psum, sumL_one hi (mset_nodup n er word c) (f := fun a => ev (psc (errAt word c a) (lamI n (mset n er word c) a)) (xinv n i)), ev_psc]
  intro b hb hne
  rw [ev_psc, lam_other hn (fun i => mset_lt) (mset_nodup n er word c) hi hb hne, K.mul_zero]
theorem lam_split {M : List Nat} {i : Nat} (hi : i ∈ M) : Eqv (plocs (M.map (Xp n))) (pm [1, Xp n i] (lamI n M i)) :=
  plocs_perm (List.perm_cons_erase (List.mem_map.2 ⟨i, hi, rfl⟩))
theorem lam_root {M : List Nat} (hn : n ≤ 255) (hM : ∀ i ∈ M, i < n) {i : Nat} (hi : i < n) : ev (plocs (M.map (Xp n))) (xinv n i) = 0 ↔ i ∈ M := by
  rw [ev_plocs_zero]
  constructor
  · rintro ⟨y, hy, e⟩
    obtain ⟨j, hj, rfl⟩ := List.mem_map.1 hy
    have h1 : xinv n i * Xp n j = xinv n i * Xp n i := by rw [K.mul_comm, e, xinv, inv_mul (Xp_ne n i)]
    rw [Xp_inj hn hi (hM j hj) (K.mul_cancel (xinv_ne n i) h1).symm]; exact hj
  · exact fun h => ⟨Xp n i, List.mem_map.2 ⟨i, h, rfl⟩, mul_inv (Xp_ne n i)⟩
theorem xinv_nodup (hn : n ≤ 255) : ∀ {M : List Nat}, (∀ i ∈ M, i < n) → M.Nodup → (M.map (xinv n)).Nodup
  | [], _, _ => by simp
  | a :: M, hM, hMd => by
    rw [List.nodup_cons] at hMd
    rw [List.map_cons, List.nodup_cons]
    refine ⟨fun h => ?_, xinv_nodup hn (fun i hi => hM i (by simp [hi])) hMd.2⟩
    obtain ⟨b, hb, e⟩ := List.mem_map.1 h
    have h1 : inv (inv (Xp n b)) = inv (inv (Xp n a)) := congrArg inv e
    rw [inv_inv (Xp_ne n b), inv_inv (Xp_ne n a)] at h1
    exact hMd.1 (Xp_inj hn (hM b (by simp [hb])) (hM a (by simp)) h1 ▸ hb)
/-- The search finds the polynomial of the places, and their number. -/
theorem found (hn : n ≤ 255) (hw : word.length = n) (hc : c.length = n) (hright : rightB p c = true) (hd : er.Nodup) (hr : ∀ i ∈ er, i < n) (hle : er.length + 2 * (oset n er word c).length ≤ p) :
    (psearch (syn p word) er.length p (ploc n er)).1 = ((mset n er word c).length : Int) ∧ Eqv (kk (psearch (syn p word) er.length p (ploc n er)).2) (plocs ((mset n er word c).map (Xp n))) := by
  have hperm := mset_perm (word := word) (c := c) hd hr
  have hlen : (mset n er word c).length = er.length + (oset n er word c).length := by rw [← hperm.length_eq, List.length_append]
  have hM : ∀ i ∈ mset n er word c, i < n := fun i => mset_lt
  have hMd := mset_nodup n er word c
  generalize hG : plocs (er.map (Xp n)) = G
  generalize hE : plocs ((oset n er word c).map (Xp n)) = E
  generalize hS : kk (syn p word) = S
  have hlam : Eqv (plocs ((mset n er word c).map (Xp n))) (pm G E) := by
    rw [← hG, ← hE]
    refine (plocs_perm (hperm.map (Xp n)).symm).trans ?_
    rw [List.map_append]; exact plocs_append _ _
  have hET : Eqv (pm E (pm G S)) (pm (plocs ((mset n er word c).map (Xp n))) S) :=
    (pm_swap E G S).trans ((pm_assoc G E S).symm.trans (pm_eqv hlam.symm (Eqv.refl S)))
  have hmk : Makes (pm G S) er.length E (oset n er word c).length (0 + (p - er.length)) := by
    refine ⟨by rw [← hE]; exact plocs_zero _, by rw [← hE]; simpa using plocs_deg ((oset n er word c).map (Xp n)), fun k h1 h2 => ?_⟩
    rw [hET, ← hS, key_co hw hc hright _ (by omega)]
    exact omW_deg _ (by omega)
  have hloc : Eqv (kk (ploc n er)) (pm G [1]) := (kk_loc n er).trans (by rw [hG]; exact ((pm_comm _ _).trans (pm_one G)).symm)
  have hf := search_ok (syn p word) G E er.length (oset n er word c).length (pm G S) (by rw [hS]) (p - er.length) 0 (er.length : Int) (ploc n er) (ploc n er) [1] [1] 0 (by omega) hloc hloc (bm_start _ _) (by omega) hmk
  unfold psearch
  obtain ⟨C, B, L, h1, h2, h3, h4⟩ := hf
  have hroot : ∀ i ∈ mset n er word c, ev (pm G C) (xinv n i) = 0 := by
    intro i hi
    rw [ev_pm]
    rcases List.mem_append.1 (hperm.mem_iff.2 hi) with hi2 | hi2
    · rw [← hG, (lam_root hn hr (hM i hi)).2 hi2, K.zero_mul]
    · have hi3 : i ∈ oset n er word c := hi2
      have hdiff : errAt word c i ≠ 0 := by
        intro h
        have h5 := List.mem_filter.1 hi3
        have h6 := (List.mem_filter.1 h5.1).2
        rw [msetB, errAt_zero.1 h, Bool.or_false] at h6
        rw [h6] at h5; exact absurd h5.2 (by simp)
      have hEx : ev E (xinv n i) = 0 := by rw [← hE]; exact (lam_root hn (fun j hj => hM j (List.mem_filter.1 hj).1) (hM i hi)).2 hi3
      have hOm : Eqv (low (pm E (pm G S)) (er.length + (oset n er word c).length)) (omW n er word c) := fun k => by
        rw [co_low]
        split
        · rw [hET, ← hS, key_co hw hc hright _ (by omega)]
        · exact (omW_deg k (by omega)).symm
      have hne : ev (low (pm E (pm G S)) (er.length + (oset n er word c).length)) (xinv n i) ≠ 0 := by
        rw [ev_eqv hOm, omW_ev hn hi]
        exact K.mul_ne hdiff (lam_self hn hM hMd hi)
      rw [bm_end h3 hmk h4 (by omega) _ hEx hne, K.mul_zero]
  have hGdeg : Deg G (er.length + 1) := by rw [← hG]; simpa using plocs_deg (er.map (Xp n))
  have hdeg : Deg (pm G C) (er.length + (L + 1)) := hGdeg.pm h3.c1
  have hLam : Eqv (pm G C) (plocs ((mset n er word c).map (Xp n))) := by
    have hD0 : co (padd (pm G C) (plocs ((mset n er word c).map (Xp n)))) 0 = 0 := by
      rw [co_padd, plocs_zero, co_pm, sumK, sumK, K.zero_add, h3.c0, ← hG, plocs_zero, K.mul_one, K.add_self]
    have hDdeg : Deg (padd (pm G C) (plocs ((mset n er word c).map (Xp n)))) (er.length + (oset n er word c).length + 1) :=
      (hdeg.mono (by omega)).padd (by have := plocs_deg ((mset n er word c).map (Xp n)); rw [List.length_map, hlen] at this; exact this)
    generalize hDD : padd (pm G C) (plocs ((mset n er word c).map (Xp n))) = D at hD0 hDdeg
    have hT : Eqv D (0 :: D.tail) := fun k => by
      match k with
      | 0 => rw [hD0]; rfl
      | k + 1 => rw [co_succ, co, co, List.getD_eq_getElem?_getD, List.getD_eq_getElem?_getD, List.getElem?_tail]
    have hTd : Deg D.tail (er.length + (oset n er word c).length) := fun k hk => by
      have := hDdeg (k + 1) (by omega)
      rw [hT, co_succ] at this; exact this
    have hz := roots_deg (rs := (mset n er word c).map (xinv n)) hTd (by rw [List.length_map, hlen]; omega) (xinv_nodup hn hM hMd) (by
        intro x hx
        obtain ⟨i, hi, rfl⟩ := List.mem_map.1 hx
        have h5 : ev D (xinv n i) = 0 := by rw [← hDD, ev_padd, hroot i hi, (lam_root hn hM (hM i hi)).2 hi, K.add_zero]
        rw [ev_eqv hT, ev, K.zero_add] at h5
        exact (K.mul_eq_zero h5).resolve_left (xinv_ne n i))
    intro k
    have h5 : co D k = 0 := by
      rw [hT]
      match k with
      | 0 => rfl
      | k + 1 => rw [co_succ]; exact hz k
    rw [← hDD, co_padd] at h5
    exact K.eq_of_add h5
  have hLt : L = (oset n er word c).length := by
    apply Classical.byContradiction; intro hne
    have h5 := hdeg (er.length + (oset n er word c).length) (by omega)
    rw [hLam, ← hlen] at h5
    have h6 := plocs_top ((mset n er word c).map (Xp n)) (fun x hx => by obtain ⟨i, _, rfl⟩ := List.mem_map.1 hx; exact Xp_ne n i)
    rw [List.length_map] at h6
    exact h6 h5
  exact ⟨by rw [h1, hlen, hLt], h2.trans hLam⟩
end
/-! ### The places, and what they are turned by -/
theorem places_are {n : Nat} {loc : List UInt8} {er : List Nat} {word c : List UInt8} (hn : n ≤ 255) (h : Eqv (kk loc) (plocs ((mset n er word c).map (Xp n)))) : pplaces n loc = mset n er word c := by
  unfold pplaces
  have hM : ∀ i ∈ mset n er word c, i < n := fun i => mset_lt
  conv => rhs; unfold mset
  refine List.filter_congr fun i hi => ?_
  have hi' : i < n := by simpa using hi
  have h1 : proot n loc i = true ↔ i ∈ mset n er word c := by
    rw [← lam_root hn hM hi', ← ev_eqv h, proot, beq_iff_eq, ← k_zero, ev_rev]; rfl
  have h2 : msetB er word c i = true ↔ i ∈ mset n er word c := by
    rw [mset, List.mem_filter]; exact ⟨fun h => ⟨hi, h⟩, fun h => h.2⟩
  rw [Bool.eq_iff_iff, h1, h2]
theorem unlikeF_filter (er : List Nat) : ∀ (l : List Nat) (a : Nat), unlikeF er l a = a + (l.filter fun i => !decide (i ∈ er)).length
  | [], a => by simp [unlikeF]
  | i :: l, a => by
    rw [unlikeF, unlikeF_filter er l]
    by_cases h : i ∈ er
    · rw [if_pos h, List.filter_cons_of_neg (by simp [h])]
    · rw [if_neg h, List.filter_cons_of_pos (by simp [h]), List.length_cons]; omega
theorem omP_sum (s loc : List UInt8) (i : Nat) : ∀ m, m ≤ i + 1 → (⟨omP s loc i m⟩ : K) = sumK m (fun j => co (kk s) j * co (kk loc) (i - j))
  | 0, _ => rfl
  | m + 1, hm => by
    rw [omP, k_add, omP_sum s loc i m (by omega), k_mul, sumK, patI_nat, show (i : Int) - m = ((i - m : Nat) : Int) by omega, patI_nat, co_kk, co_kk]
theorem omega_eqv (s loc : List UInt8) (pp : Nat) : Eqv (kk (pomega s loc pp)) (low (pm (kk s) (kk loc)) pp) := fun i => by
  rw [co_low, co_kk, pomega, List.getD_eq_getElem?_getD, List.getElem?_map]
  split
  · next h => rw [List.getElem?_range h]; exact (omP_sum s loc i (i + 1) (Nat.le_refl _)).trans (co_pm _ _ _).symm
  · next h => rw [List.getElem?_eq_none (by simpa using h)]; rfl
theorem der_eqv8 (a : List UInt8) : Eqv (kk (pderived a)) (derK (kk a)) := fun i => by
  rw [co_der, co_kk, pderived, List.getD_eq_getElem?_getD, List.getElem?_map]
  by_cases h : i < a.length - 1
  · rw [List.getElem?_range h]
    show (⟨derF a i⟩ : K) = _
    rw [derF]; split
    · rw [co_kk]
    · rfl
  · rw [List.getElem?_eq_none (by simpa using h), co_big (by rw [kk_len]; omega)]
    split <;> rfl
theorem by_is {n p : Nat} {er : List Nat} {word c loc : List UInt8} (hn : n ≤ 255) (hw : word.length = n) (hc : c.length = n) (hright : rightB p c = true) (hle : (mset n er word c).length ≤ p)
    (h : Eqv (kk loc) (plocs ((mset n er word c).map (Xp n)))) {i : Nat} (hi : i ∈ mset n er word c) : pby n (pomega (syn p word) loc p) (pderived loc) i = ((errAt word c i).v, true) := by
  have hM : ∀ i ∈ mset n er word c, i < n := fun i => mset_lt
  have hMd := mset_nodup n er word c
  have hu := lam_self hn hM hMd hi
  generalize hU : ev (lamI n (mset n er word c) i) (xinv n i) = u at hu
  have hom : (⟨peval (pomega (syn p word) loc p).reverse (ginv (gexp ((n : Int) - 1 - i)))⟩ : K) = errAt word c i * u := by
    rw [ev_rev]
    have h1 : Eqv (kk (pomega (syn p word) loc p)) (omW n er word c) := (omega_eqv _ _ _).trans fun k => by
      rw [co_low]
      split
      · rw [pm_comm _ _ k, pm_eqv h (Eqv.refl _) k, key_co hw hc hright k (by omega)]
      · exact (omW_deg k (by omega)).symm
    rw [ev_eqv h1, ← hU, ← omW_ev hn hi]; rfl
  have hder : (⟨peval (pderived loc).reverse (ginv (gexp ((n : Int) - 1 - i)))⟩ : K) = Xp n i * u := by
    rw [ev_rev]
    have h1 : Eqv (kk (pderived loc)) (padd (psc (Xp n i) (lamI n (mset n er word c) i)) (pm [1, Xp n i] (derK (lamI n (mset n er word c) i)))) :=
      (der_eqv8 loc).trans ((der_eqv (h.trans (lam_split hi))).trans (der_pm1 _ _))
    rw [ev_eqv h1, ev_padd, ev_psc, ev_pm, ev_ploc1]
    show Xp n i * ev _ (xinv n i) + (1 + Xp n i * xinv n i) * _ = _
    rw [hU, xinv, mul_inv (Xp_ne n i), K.add_self, K.zero_mul, K.add_zero]
  have hd0 : peval (pderived loc).reverse (ginv (gexp ((n : Int) - 1 - i))) ≠ 0 := fun h0 => by
    have : (⟨peval (pderived loc).reverse (ginv (gexp ((n : Int) - 1 - i)))⟩ : K) = 0 := k_zero.2 h0
    rw [hder] at this
    exact K.mul_ne (Xp_ne n i) hu this
  unfold pby
  rw [if_neg hd0]
  congr 1
  apply k_eq.1
  show _ = errAt word c i
  rw [k_mul]
  show Xp n i * ⟨gdiv _ _⟩ = _
  rw [gdiv, k_mul, k_inv, hom, hder]
  have h2 : inv (Xp n i * u) * (Xp n i * u) = 1 := inv_mul (K.mul_ne (Xp_ne n i) hu)
  have h3 : Xp n i * (errAt word c i * u * inv (Xp n i * u)) = errAt word c i * (inv (Xp n i * u) * (Xp n i * u)) := by ac_rfl
  rw [h3, h2, K.mul_one]
theorem mendF_all (n : Nat) (om der : List UInt8) (f : Nat → UInt8) : ∀ (l : List Nat) (out : List UInt8), l.Nodup → (∀ i ∈ l, i < out.length) → (∀ i ∈ l, pby n om der i = (f i, true)) →
    ∃ r, mendF n om der l out = some r ∧ r.length = out.length ∧ ∀ j, r.getD j 0 = if j ∈ l then gadd [out.getD j 0, f j] else out.getD j 0
  | [], out, _, _, _ => ⟨out, rfl, rfl, fun j => by simp⟩
  | i :: l, out, hd, hl, hb => by
    rw [List.nodup_cons] at hd
    have hbi := hb i (by simp)
    rw [mendF, hbi, if_neg (by simp)]
    obtain ⟨r, h1, h2, h3⟩ := mendF_all n om der f l (out.set i (gadd [out.getD i 0, f i])) hd.2 (fun j hj => by rw [List.length_set]; exact hl j (by simp [hj])) (fun j hj => hb j (by simp [hj]))
    refine ⟨r, h1, by rw [h2, List.length_set], fun j => ?_⟩
    rw [h3 j]
    have hset : ∀ j, (out.set i (gadd [out.getD i 0, f i])).getD j 0 = if j = i then gadd [out.getD i 0, f i] else out.getD j 0 := fun j => by
      rw [List.getD_eq_getElem?_getD, List.getElem?_set]
      by_cases e : i = j
      · subst e; rw [if_pos rfl, if_pos (hl i (by simp)), if_pos rfl]; rfl
      · rw [if_neg e, if_neg (fun h => e h.symm), List.getD_eq_getElem?_getD]
    rw [hset j]
    by_cases hj : j ∈ l
    · have hji : j ≠ i := fun e => hd.1 (e ▸ hj)
      rw [if_pos hj, if_neg hji, if_pos (List.mem_cons_of_mem _ hj)]
    · rw [if_neg hj]
      by_cases e : j = i
      · subst e; rw [if_pos rfl, if_pos (List.mem_cons_self)]
      · rw [if_neg e, if_neg (fun h => (List.mem_cons.1 h).elim e hj)]
/-- Whatever was spoilt, within what may be, is mended. -/
theorem mend_complete {n p : Nat} {er : List Nat} {word c : List UInt8} (hn : n ≤ 255) (hw : word.length = n) (hc : c.length = n) (hright : rightB p c = true) (hd : er.Nodup) (hr : ∀ i ∈ er, i < n)
    (hle : er.length + 2 * (oset n er word c).length ≤ p) :
    pmend n p er (syn p word) (psearch (syn p word) er.length p (ploc n er)).2 word (psearch (syn p word) er.length p (ploc n er)).1 = some c := by
  obtain ⟨h1, h2⟩ := found hn hw hc hright hd hr hle
  have hperm := mset_perm (word := word) (c := c) hd hr
  have hlen : (mset n er word c).length = er.length + (oset n er word c).length := by rw [← hperm.length_eq, List.length_append]
  have hpl := places_are hn h2
  generalize (psearch (syn p word) er.length p (ploc n er)).2 = loc at *
  rw [h1, pmend, hpl, if_neg (by simp), punlike, unlikeF_filter]
  have ho : ((mset n er word c).filter fun i => !decide (i ∈ er)).length = (oset n er word c).length := rfl
  rw [ho, if_neg (by omega)]
  obtain ⟨r, h3, h4, h5⟩ := mendF_all n (pomega (syn p word) loc p) (pderived loc) (fun i => (errAt word c i).v) (mset n er word c) word (mset_nodup n er word c) (fun i hi => by have := mset_lt hi; omega)
    (fun i hi => by_is hn hw hc hright (by omega) h2 hi)
  rw [h3]
  congr 1
  apply List.ext_getElem (by omega)
  intro j hj1 hj2
  have h6 := h5 j
  rw [List.getD_eq_getElem?_getD, List.getElem?_eq_getElem hj1] at h6
  have hcj : c[j] = c.getD j 0 := by rw [List.getD_eq_getElem?_getD, List.getElem?_eq_getElem hj2]; rfl
  show r[j] = c[j]
  rw [hcj]
  have h7 : r[j] = if j ∈ mset n er word c then gadd [word.getD j 0, (errAt word c j).v] else word.getD j 0 := h6
  rw [h7]
  by_cases hm : j ∈ mset n er word c
  · rw [if_pos hm]
    apply k_eq.1
    rw [k_add]
    show (⟨word.getD j 0⟩ : K) + errAt word c j = _
    rw [errAt, K.add_add_self]
  · rw [if_neg hm]
    have hdf : differ word c j = false := by
      cases hdf : differ word c j with
      | false => rfl
      | true => exact absurd (List.mem_filter.2 ⟨by simp; omega, by rw [msetB, hdf, Bool.or_true]⟩) hm
    simpa [differ] using hdf
end Go.Proofs.Ytdcjionaedcfoaa.Solve
