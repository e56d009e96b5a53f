/- The other way, by division, finds the same: plainly. -/
import Derived.Test.YtdcjionaedcfoaaAdd
import Derived.Test.YtdcjionaedcfoaaBmN
set_option linter.unusedVariables false
set_option linter.unusedSimpArgs false
namespace Go.Proofs.Ytdcjionaedcfoaa.Solve
open Go.Proofs.Ytdcjionaedcfoaa.Gf Go.Proofs.Ytdcjionaedcfoaa.Gf.K Go.Proofs.Ytdcjionaedcfoaa.Poly Go.Proofs.Ytdcjionaedcfoaa.Rs

/-! ### The other way: by division -/
def plow (a : List UInt8) (m : Nat) : List UInt8 := a.reverse.take m
def ptold (s loc : List UInt8) (p : Nat) : List UInt8 := trim (plow (pmul [s.reverse, loc.reverse]) p).reverse
def eloop (lim : Nat) : Nat → List UInt8 → List UInt8 → List UInt8 → List UInt8 → List UInt8
  | 0, _, _, _, y => y
  | f + 1, a, b, x, y => if (lim : Int) ≤ 2 * (((trim b).length : Int) - 1) then eloop lim f b (pdiv a b).2 y (padds [x, pmul [(pdiv a b).1, y]]) else y
def pend (all loc : List UInt8) : Int × List UInt8 :=
  if all = [] ∨ all.getD (all.length - 1) 0 = 0 then (-1, loc)
  else ((all.length : Int) - 1, pscaled all.reverse (ginv (all.getD (all.length - 1) 0)))
def peuclid (s : List UInt8) (e p : Nat) (loc : List UInt8) : Int × List UInt8 :=
  pend (pmul [eloop (p + e) (p + 1) (pshift [1] p) (ptold s loc p) [] [1], loc.reverse]) loc

/-! ### Plainly -/
/-- x to the p. -/
def mon (p : Nat) : List K := List.replicate p 0 ++ [1]
theorem co_mon : ∀ (p : Nat) (Z : List K) (n : Nat), co (pm (mon p) Z) n = if n < p then 0 else co Z (n - p)
  | 0, Z, n => by rw [if_neg (by omega), Nat.sub_zero]; exact pm_one Z n
  | p + 1, Z, n => by
    show co (pm (0 :: mon p) Z) n = _
    match n with
    | 0 => rw [pm_shift_left, if_pos (by omega), co_zero]
    | n + 1 =>
      rw [co_pm_shift, co_mon p Z n]
      by_cases h : n < p
      · rw [if_pos h, if_pos (by omega)]
      · rw [if_neg h, if_neg (by omega), show n + 1 - (p + 1) = n - p by omega]
theorem split_at (q : List K) (p : Nat) : Eqv q (padd (low q p) (pm (mon p) (q.drop p))) := fun n => by
  rw [co_padd, co_low, co_mon]
  by_cases h : n < p
  · rw [if_pos h, if_pos h, K.add_zero]
  · rw [if_neg h, if_neg h, K.zero_add, co, co, List.getD_eq_getElem?_getD, List.getD_eq_getElem?_getD, List.getElem?_drop, show p + (n - p) = n by omega]
theorem mon_shift (p : Nat) : Eqv (hk (pshift [1] p)) (mon p) := by
  have : hk (pshift [1] p) = mon p := by
    show kk ((if ([1] : List UInt8) = [] then [] else [1] ++ List.replicate p 0)).reverse = _
    rw [if_neg (by simp), List.reverse_append, List.reverse_replicate]
    simp [kk, mon]
    exact ⟨.inr rfl, rfl⟩
  rw [this]; exact Eqv.refl _
theorem top_pm {p q : List K} {a b : Nat} (hp : Deg p (a + 1)) (hq : Deg q (b + 1)) : co (pm p q) (a + b) = co p a * co q b := by
  rw [co_pm, sumK_one (j := a) (by omega), show a + b - a = b by omega]
  intro i hi hne
  by_cases h : a + 1 ≤ i
  · rw [hp i h, K.zero_mul]
  · rw [hq (a + b - i) (by omega), K.mul_zero]
/-- A polynomial that is something has a highest power. -/
theorem top_of {p : List K} (h : ∃ n, co p n ≠ 0) : ∃ d, co p d ≠ 0 ∧ Deg p (d + 1) := by
  have main : ∀ m, Deg p m → (∃ n, co p n ≠ 0) → ∃ d, co p d ≠ 0 ∧ Deg p (d + 1) := by
    intro m
    induction m with
    | zero => rintro h ⟨n, hn⟩; exact absurd (h n (by omega)) hn
    | succ m ih =>
      intro h hn
      by_cases hm : co p m = 0
      · exact ih (fun i hi => by
          by_cases e : i = m
          · rw [e, hm]
          · exact h i (by omega)) hn
      · exact ⟨m, hm, h⟩
  exact main _ (deg_len p) h
theorem zero_const {D : List K} {m : Nat} {xs : List K} (h0 : co D 0 = 0) (hd : Deg D (m + 1)) (hl : m ≤ xs.length) (hn : xs.Nodup) (hx : ∀ x ∈ xs, x ≠ 0 ∧ ev D x = 0) : ∀ k, co D k = 0 := by
  have hT : Eqv D (0 :: D.tail) := fun k => by
    match k with
    | 0 => rw [h0]; rfl
    | k + 1 => rw [co_succ, co, co, List.getD_eq_getElem?_getD, List.getD_eq_getElem?_getD, List.getElem?_tail]
  have hTd : Deg D.tail m := fun k hk => by
    have := hd (k + 1) (by omega)
    rw [hT, co_succ] at this; exact this
  have hz := roots_deg hTd hl hn fun x hx' => by
    obtain ⟨hx0, he⟩ := hx x hx'
    rw [ev_eqv hT, ev, K.zero_add] at he
    exact (K.mul_eq_zero he).resolve_left hx0
  intro k
  rw [hT]
  match k with
  | 0 => rfl
  | k + 1 => rw [co_succ]; exact hz k
theorem padd_self (p q : List K) : Eqv (padd p (padd p q)) q := fun n => by rw [co_padd, co_padd, K.add_add_self]
theorem padd_comm (p q : List K) : Eqv (padd p q) (padd q p) := fun n => by rw [co_padd, co_padd, K.add_comm]
/-- What holds while it is divided. -/
structure EInv (T : List K) (p : Nat) (a b x y : List UInt8) : Prop where
  ta : trim a = a
  tb : trim b = b
  lt : b.length < a.length
  la : a.length ≤ p + 1
  ly : y.length + a.length ≤ p + 2
  lx : x.length + a.length ≤ p + 2
  eqs : ∃ U V : List K, Eqv (hk a) (padd (pm V (mon p)) (pm (hk x) T)) ∧ Eqv (hk b) (padd (pm U (mon p)) (pm (hk y) T)) ∧ Eqv (padd (pm U (hk x)) (pm V (hk y))) [1]
theorem mul2_len1 (a b : List UInt8) : (pmul [a, b]).length ≤ a.length + b.length - 1 := by
  rw [mul2]
  have h1 := two_one a
  have h2 := trim_len (ptwo [1] a)
  have h3 := trim_len b
  by_cases ha : trim (ptwo [1] a) = []
  · rw [ptwo, if_pos (.inl ha)]; simp
  · by_cases hb : trim b = []
    · rw [ptwo, if_pos (.inr hb)]; simp
    · rw [(two_head ha hb).2]; omega
theorem hk_div (a b : List UInt8) (hb : trim b ≠ []) (ha : a.length ≤ 100) (hbl : b.length ≤ 100) : Eqv (hk a) (padd (pm (hk (pdiv a b).1) (hk b)) (hk (pdiv a b).2)) := by
  have h1 := div_qlen a b hb
  have h2 := (div_ok a b hb).1
  have h3 := trim_len a
  have h4 := trim_len b
  refine eqv_of_ev ((hk_deg a).mono (by omega)) ?_ fun x => ?_
  · refine Deg.padd ?_ ((hk_deg _).mono (by omega))
    have := Deg.pm (p := hk (pdiv a b).1) (q := hk b) (m := (pdiv a b).1.length) (n := b.length) ((hk_deg _).mono (by omega)) (hk_deg b)
    exact this.mono (by omega)
  · rw [ev_padd, ev_pm, hk_ev, hk_ev, hk_ev, hk_ev, div_full a b hb x]
theorem einv_step {T : List K} {p : Nat} {a b x y : List UInt8} (h : EInv T p a b x y) (hp : p ≤ 64) (hb : b ≠ []) :
    EInv T p b (pdiv a b).2 y (padds [x, pmul [(pdiv a b).1, y]]) := by
  have htb : trim b ≠ [] := by rw [h.tb]; exact hb
  have hbl := List.length_pos_iff.2 hb
  have hq := div_qlen a b htb
  have hr := (div_ok a b htb).1
  rw [h.ta, h.tb] at hq
  rw [h.tb] at hr
  have hm := mul2_len1 (pdiv a b).1 y
  have h1 := h.lt; have h2 := h.la; have h3 := h.ly; have h4 := h.lx
  have hyl : (padds [x, pmul [(pdiv a b).1, y]]).length ≤ p + 2 - b.length := padds_len _ _ fun c hc => by
    simp at hc
    rcases hc with rfl | rfl
    · omega
    · omega
  refine ⟨h.tb, rest_trim a b, by omega, by omega, by omega, by omega, ?_⟩
  obtain ⟨U, V, e1, e2, e3⟩ := h.eqs
  have hd := hk_div a b htb (by omega) (by omega)
  have hy : Eqv (hk (padds [x, pmul [(pdiv a b).1, y]])) (padd (hk x) (pm (hk (pdiv a b).1) (hk y))) :=
    (hk_adds2 _ _ 200 (by omega) (by omega) (by omega)).trans (padd_eqv (Eqv.refl _) (hk_mul2 _ _ (by omega)))
  have hrest : Eqv (hk (pdiv a b).2) (padd (hk a) (pm (hk (pdiv a b).1) (hk b))) := fun n => by
    rw [co_padd, hd n, co_padd, K.add_comm (co (pm _ _) n), K.add_assoc, K.add_self, K.add_zero]
  generalize hk (pdiv a b).1 = Q at *
  refine ⟨padd V (pm Q U), U, e2, ?_, ?_⟩
  · refine hrest.trans fun n => ?_
    rw [co_padd, co_padd, e1 n, co_padd, pm_eqv (Eqv.refl Q) e2 n, pm_add_right Q _ _ n, co_padd, co_pm_add, pm_assoc Q U (mon p) n, pm_eqv hy (Eqv.refl T) n, co_pm_add, pm_assoc Q (hk y) T n]
    ac_rfl
  · intro n
    rw [← e3 n, co_padd, co_padd, co_pm_add, pm_eqv (Eqv.refl U) hy n, pm_add_right U _ _ n, co_padd, pm_assoc Q U (hk y) n, pm_swap U Q (hk y) n]
    have : ∀ a b c : K, a + b + (c + b) = c + a := fun a b c => by
      rw [show a + b + (c + b) = (b + b) + (c + a) by ac_rfl, K.add_self, K.zero_add]
    exact this _ _ _
/-- Where the loop ends. -/
theorem eloop_ok (T : List K) (p lim : Nat) (hp : p ≤ 64) : ∀ (f : Nat) (a b x y : List UInt8), EInv T p a b x y → b.length < f → (lim : Int) ≤ 2 * ((a.length : Int) - 1) →
    ∃ a' b' x', EInv T p a' b' x' (eloop lim f a b x y) ∧ (lim : Int) ≤ 2 * ((a'.length : Int) - 1) ∧ 2 * ((b'.length : Int) - 1) < lim
  | 0, a, b, x, y, h, hf, hl => by omega
  | f + 1, a, b, x, y, h, hf, hl => by
    rw [eloop, h.tb]
    by_cases hc : (lim : Int) ≤ 2 * ((b.length : Int) - 1)
    · rw [if_pos hc]
      have hb : b ≠ [] := by rintro rfl; simp at hc; omega
      have hstep := einv_step h hp hb
      exact eloop_ok T p lim hp f _ _ _ _ hstep (by have := hstep.lt; omega) hc
    · rw [if_neg hc]
      exact ⟨a, b, x, h, hl, by omega⟩
section
variable {n p : Nat} {er : List Nat} {word c : List UInt8}
theorem told_len (s loc : List UInt8) (p : Nat) : (ptold s loc p).length ≤ p := by
  have := trim_len (plow (pmul [s.reverse, loc.reverse]) p).reverse
  unfold ptold plow at *
  rw [List.length_reverse, List.length_take] at this
  omega
theorem told_eqv (s loc : List UInt8) (p : Nat) (h : s.length + loc.length ≤ 250) : Eqv (hk (ptold s loc p)) (low (pm (kk s) (kk loc)) p) := by
  have h1 : Eqv (hk (ptold s loc p)) (hk (plow (pmul [s.reverse, loc.reverse]) p).reverse) := by
    have hl : (plow (pmul [s.reverse, loc.reverse]) p).length ≤ 250 := by
      have := mul2_len s.reverse loc.reverse
      unfold plow
      simp only [List.length_reverse] at this
      rw [List.length_take, List.length_reverse]; omega
    have h2 := trim_len (plow (pmul [s.reverse, loc.reverse]) p).reverse
    rw [List.length_reverse] at h2
    refine eqv_of_ev ((hk_deg _).mono ?_) ((hk_deg _).mono ?_) fun x => ?_
    · unfold ptold; omega
    · rw [List.length_reverse]; omega
    · rw [hk_ev, hk_ev, ptold, trim_hev]
  refine h1.trans fun n => ?_
  rw [hk, List.reverse_reverse, co_kk, co_low, plow, List.getD_eq_getElem?_getD, List.getElem?_take]
  by_cases hn : n < p
  · rw [if_pos hn, if_pos hn]
    have h3 := hk_mul2 s.reverse loc.reverse (by simp; omega) n
    rw [hk, co_kk, List.getD_eq_getElem?_getD] at h3
    rw [h3]
    unfold hk
    rw [List.reverse_reverse, List.reverse_reverse]
  · rw [if_neg hn, if_neg hn]; rfl
/-- The other way finds the same. -/
theorem found2 (hn : n ≤ 255) (hp : p ≤ 64) (hw : word.length = n) (hc : c.length = n) (hright : rightB p c = true) (hd : er.Nodup) (hr : ∀ i ∈ er, i < n) (hle : er.length + 2 * (oset n er word c).length ≤ p) (hp0 : 0 < p) :
    (peuclid (syn p word) er.length p (ploc n er)).1 = ((mset n er word c).length : Int) ∧ Eqv (kk (peuclid (syn p word) er.length p (ploc n er)).2) (plocs ((mset n er word c).map (Xp n))) := by
  have hperm := mset_perm (word := word) (c := c) hd hr
  have hlen : (mset n er word c).length = er.length + (oset n er word c).length := by rw [← hperm.length_eq, List.length_append]
  have hM : ∀ i ∈ mset n er word c, i < n := fun i => mset_lt
  have hMd := mset_nodup n er word c
  have hO : ∀ i ∈ oset n er word c, i ∈ mset n er word c := fun i hi => (List.mem_filter.1 hi).1
  have hOd : (oset n er word c).Nodup := List.Pairwise.filter _ hMd
  have hsl : (syn p word).length = p := by simp [syn]
  have hll : (ploc n er).length = er.length + 1 := by
    have : ∀ (er : List Nat) (loc : List UInt8), 0 < loc.length → (plocF n er loc).length = loc.length + er.length := by
      intro er
      induction er with
      | nil => intro loc _; rfl
      | cons i er ih =>
        intro loc h
        rw [plocF, ih _ (by simp [pplus]), pplus, List.length_map, List.length_range, List.length_cons]; omega
    rw [ploc, this er [1] (by simp)]; simp; omega
  generalize hG : plocs (er.map (Xp n)) = G
  generalize hE : plocs ((oset n er word c).map (Xp n)) = E
  generalize hS : kk (syn p word) = S
  have hloc : Eqv (kk (ploc n er)) G := hG ▸ kk_loc n er
  have hlam : Eqv (plocs ((mset n er word c).map (Xp n))) (pm G E) := by
    rw [← hG, ← hE]
    refine (plocs_perm (hperm.map (Xp n)).symm).trans ?_
    rw [List.map_append]; exact plocs_append _ _
  have hT := told_eqv (syn p word) (ploc n er) p (by rw [hsl, hll]; omega)
  generalize hTT : hk (ptold (syn p word) (ploc n er) p) = T at hT
  have hTn : ∀ m, m < p → co T m = co (pm G S) m := fun m hm => by
    rw [hT m, co_low, if_pos hm, hS, pm_comm S _ m, pm_eqv hloc (Eqv.refl S) m]
  -- the start
  have hstart : EInv T p (pshift [1] p) (ptold (syn p word) (ploc n er) p) [] [1] := by
    have h1 : (pshift [1] p).length = p + 1 := by
      show (if ([1] : List UInt8) = [] then [] else [1] ++ List.replicate p 0).length = _
      rw [if_neg (by simp)]; simp <;> omega
    have h2 : trim (pshift [1] p) = pshift [1] p := trim_id (by
      show (if ([1] : List UInt8) = [] then [] else [1] ++ List.replicate p 0).getD 0 0 ≠ 0
      rw [if_neg (by simp)]; simp)
    have h3 := told_len (syn p word) (ploc n er) p
    refine ⟨h2, trim_trim _, by omega, by omega, by simp; omega, by simp; omega, [], [1], ?_, ?_, ?_⟩
    · exact fun m => by
        rw [mon_shift, co_padd, pm_one, show hk [] = [] from rfl, pm, co_nil, K.add_zero]
    · exact fun m => by
        rw [co_padd, pm, co_nil, K.zero_add, hTT, show hk [1] = [1] from rfl, pm_one]
    · exact fun m => by
        rw [co_padd, pm, co_nil, K.zero_add, show hk [1] = [1] from rfl, pm_one]
  have hsh : (pshift [1] p).length = p + 1 := by
    show (if ([1] : List UInt8) = [] then [] else [1] ++ List.replicate p 0).length = _
    rw [if_neg (by simp)]; simp <;> omega
  obtain ⟨a, b, x, hi, hal, hbl⟩ := eloop_ok T p (p + er.length) hp (p + 1) _ _ _ _ hstart (by have := told_len (syn p word) (ploc n er) p; omega) (by rw [hsh]; omega)
  unfold peuclid
  generalize eloop (p + er.length) (p + 1) (pshift [1] p) (ptold (syn p word) (ploc n er) p) [] [1] = y at hi
  obtain ⟨U, V, e1, e2, e3⟩ := hi.eqs
  have hly := hi.ly
  have hEdeg : Deg E ((oset n er word c).length + 1) := by rw [← hE]; simpa using plocs_deg ((oset n er word c).map (Xp n))
  have hE0 : co E 0 = 1 := by rw [← hE]; exact plocs_zero _
  -- E T is what is left, and more from p on
  have hET : ∀ m, m < p → co (pm E T) m = co (omW n er word c) m := fun m hm => by
    rw [co_pm_low hTn m hm, pm_swap E G S m, ← pm_assoc G E S m, pm_eqv hlam.symm (Eqv.refl S) m, ← hS, key_co hw hc hright m hm]
  have hWdeg : Deg (omW n er word c) p := omW_deg.mono (by omega)
  have hET2 : Eqv (pm E T) (padd (omW n er word c) (pm (mon p) ((pm E T).drop p))) := (split_at (pm E T) p).trans (padd_eqv (fun m => by
    rw [co_low]; split
    · next h => exact hET m h
    · next h => exact (hWdeg m (by omega)).symm) (Eqv.refl _))
  generalize (pm E T).drop p = Vv at hET2
  have hbig : Eqv (padd (pm E (hk b)) (pm (hk y) (omW n er word c))) (pm (mon p) (padd (pm E U) (pm (hk y) Vv))) := fun m => by
    rw [co_padd, pm_eqv (Eqv.refl E) e2 m, pm_add_right E _ _ m, co_padd, ← pm_assoc E U (mon p) m, pm_swap E (hk y) T m, pm_eqv (Eqv.refl (hk y)) hET2 m, pm_add_right (hk y) _ _ m, co_padd,
      pm_add_right (mon p) _ _ m, co_padd, pm_comm (mon p) (pm E U) m, pm_swap (mon p) (hk y) Vv m]
    have : ∀ a b c : K, a + (b + c) + b = a + c := fun a b c => by
      rw [show a + (b + c) + b = (b + b) + (a + c) by ac_rfl, K.add_self, K.zero_add]
    exact this _ _ _
  have hdeg1 : Deg (pm E (hk b)) p := (hEdeg.pm (hk_deg b)).mono (by omega)
  have hdeg2 : Deg (pm (hk y) (omW n er word c)) p := (Deg.pm (m := y.length - 1) (n := (mset n er word c).length) ((hk_deg y).mono (by omega)) omW_deg).mono (by omega)
  have hEU : Eqv (pm E U) (pm (hk y) Vv) := fun m => by
    have h1 := hbig (m + p)
    rw [co_padd, hdeg1 _ (by omega), hdeg2 _ (by omega), K.add_zero, co_mon, if_neg (by omega), show m + p - p = m by omega, co_padd] at h1
    exact K.eq_of_add h1.symm
  have hEB : Eqv (pm E (hk b)) (pm (hk y) (omW n er word c)) := fun m => by
    by_cases hm : m < p
    · have h1 := hbig m
      rw [co_padd, co_mon, if_pos hm] at h1
      exact K.eq_of_add h1
    · rw [hdeg1 m (by omega), hdeg2 m (by omega)]
  have hYE : Eqv E (pm (hk y) (padd (pm Vv (hk x)) (pm E V))) := fun m => by
    have h1 : co E m = co (pm E (padd (pm U (hk x)) (pm V (hk y)))) m := by
      rw [pm_eqv (Eqv.refl E) e3 m, pm_comm E [1] m, pm_one E m]
    rw [h1, pm_add_right E _ _ m, co_padd, ← pm_assoc E U (hk x) m, pm_eqv hEU (Eqv.refl (hk x)) m, pm_assoc (hk y) Vv (hk x) m, pm_add_right (hk y) _ _ m, co_padd]
    congr 1
    rw [← pm_assoc E V (hk y) m, pm_comm _ (hk y) m]
  -- y is E, but for a factor
  have hyroot : ∀ i ∈ oset n er word c, ev (hk y) (xinv n i) = 0 := by
    intro i hi'
    have hdiff : errAt word c i ≠ 0 := by
      intro h
      have h5 := List.mem_filter.1 hi'
      have h6 := (List.mem_filter.1 h5.1).2
      rw [msetB, errAt_zero.1 h, Bool.or_false] at h6
      rw [h6] at h5; exact absurd h5.2 (by simp)
    have hEx : ev E (xinv n i) = 0 := by rw [← hE]; exact (lam_root hn (fun j hj => hM j (hO j hj)) (hM i (hO i hi'))).2 hi'
    have h7 := ev_eqv hEB (xinv n i)
    rw [ev_pm, ev_pm, hEx, K.zero_mul, omW_ev hn (hO i hi')] at h7
    exact (K.mul_eq_zero h7.symm).resolve_right (K.mul_ne hdiff (lam_self hn hM hMd (hO i hi')))
  have hprod0 : co (hk y) 0 * co (padd (pm Vv (hk x)) (pm E V)) 0 = 1 := by
    have := hYE 0
    rw [hE0, co_pm, sumK, sumK, K.zero_add] at this
    exact this.symm
  have hy0 : co (hk y) 0 ≠ 0 := fun h => by rw [h, K.zero_mul] at hprod0; exact K.one_ne hprod0.symm
  have hz0 : co (padd (pm Vv (hk x)) (pm E V)) 0 ≠ 0 := fun h => by rw [h, K.mul_zero] at hprod0; exact K.one_ne hprod0.symm
  have hydeg : Deg (hk y) ((oset n er word c).length + 1) := by
    obtain ⟨d1, hd1, hdd1⟩ := top_of ⟨0, hy0⟩
    obtain ⟨d2, hd2, hdd2⟩ := top_of ⟨0, hz0⟩
    have h1 := top_pm hdd1 hdd2
    rw [← hYE] at h1
    refine hdd1.mono ?_
    apply Classical.byContradiction; intro hgt
    rw [hEdeg _ (by omega)] at h1
    exact K.mul_ne hd1 hd2 h1.symm
  generalize hcc : co (hk y) 0 = cc at hy0
  have hyE : Eqv (hk y) (psc cc E) := by
    have hz := zero_const (D := padd (hk y) (psc cc E)) (m := (oset n er word c).length) (xs := (oset n er word c).map (xinv n)) (by rw [co_padd, co_psc, hcc, hE0, K.mul_one, K.add_self]) (hydeg.padd (hEdeg.psc cc)) (by simp) (xinv_nodup hn (fun i hi => hM i (hO i hi)) hOd) (by
      intro x hx
      obtain ⟨i, hi', rfl⟩ := List.mem_map.1 hx
      refine ⟨xinv_ne n i, ?_⟩
      rw [ev_padd, ev_psc, hyroot i hi', ← hE, (lam_root hn (fun j hj => hM j (hO j hj)) (hM i (hO i hi'))).2 hi', K.mul_zero, K.add_zero])
    intro m
    have := hz m
    rw [co_padd] at this
    exact K.eq_of_add this
  have hla := hi.la
  have hall : Eqv (hk (pmul [y, (ploc n er).reverse])) (psc cc (plocs ((mset n er word c).map (Xp n)))) := by
    refine (hk_mul2 _ _ (by rw [List.length_reverse, hll]; omega)).trans ?_
    rw [show hk (ploc n er).reverse = kk (ploc n er) by unfold hk; rw [List.reverse_reverse]]
    refine (pm_eqv hyE hloc).trans ((pm_sc_left _ _ _).trans fun m => ?_)
    rw [co_psc, co_psc, hlam m, pm_comm E G m]
  have hhead : pmul [y, (ploc n er).reverse] ≠ [] → (pmul [y, (ploc n er).reverse]).getD 0 0 ≠ 0 := fun h => by
    rw [mul2] at *
    by_cases ha : trim (ptwo [1] y) = []
    · rw [ptwo, if_pos (.inl ha)] at h; exact absurd rfl h
    · by_cases hb : trim (ploc n er).reverse = []
      · rw [ptwo, if_pos (.inr hb)] at h; exact absurd rfl h
      · exact (two_head ha hb).1
  generalize pmul [y, (ploc n er).reverse] = all at *
  have htop : co (hk all) (mset n er word c).length ≠ 0 := by
    rw [hall, co_psc]
    have h6 := plocs_top ((mset n er word c).map (Xp n)) (fun x hx => by obtain ⟨i, _, rfl⟩ := List.mem_map.1 hx; exact Xp_ne n i)
    rw [List.length_map] at h6
    exact K.mul_ne hy0 h6
  have hall1 : (mset n er word c).length < all.length := by
    apply Classical.byContradiction; intro h
    exact htop (co_big (by rw [hk_len]; omega))
  have hne : all ≠ [] := by rintro rfl; simp at hall1
  have hall2 : all.length = (mset n er word c).length + 1 := by
    apply Classical.byContradiction; intro h
    have h1 := hd_co (hhead hne)
    rw [hall, co_psc, plocs_deg _ _ (by rw [List.length_map]; omega), K.mul_zero] at h1
    exact h1 rfl
  have hlast : (⟨all.getD (all.length - 1) 0⟩ : K) = cc := by
    have h1 := hall 0
    rw [co_psc, plocs_zero, K.mul_one, hk, co_kk] at h1
    rw [← h1]
    congr 1
    rw [List.getD_eq_getElem?_getD, List.getD_eq_getElem?_getD, List.getElem?_reverse (by omega)]; rfl
  unfold pend
  rw [if_neg (by
    rintro (h | h)
    · exact hne h
    · exact hy0 (by rw [← hlast]; exact k_zero.2 h))]
  refine ⟨by show (all.length : Int) - 1 = _; omega, ?_⟩
  refine (kk_scaled _ _).trans fun m => ?_
  rw [k_inv, hlast, co_psc]
  have h1 := hall m
  unfold hk at h1
  rw [h1, co_psc, ← K.mul_assoc, inv_mul hy0, K.one_mul]
end
end Go.Proofs.Ytdcjionaedcfoaa.Solve
