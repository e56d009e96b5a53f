/- A region that draws its order: what only reads may be taken first, as long as all else but the last operation leaves old memory alone. -/
import Derived.Test.YtdcjionaedcfoaaL
import Derived.OrdersHeld
import Derived.Deep.RegionHeld3
set_option linter.unusedVariables false
namespace Go.Proofs.Ytdcjionaedcfoaa.L
open Go.RowKit
section
variable {P : Program} {ops : Array Oper} {Q : Exit → Act → World → Prop} {md : Region.Mode}
/-- Has an operation nothing to do with memory? -/
def pureB (o : Oper) : Bool :=
  match o.op with
  | .move _ | .assign _ | .pick .. | .binOp .. | .unOp .. | .convert .. | .fieldAddr .. | .indexAddr .. | .field .. | .index .. | .extract .. | .nilCheck _ | .slice .. => true
  | .call c => match c.callee with
    | .builtin .len | .builtin .min | .builtin .max | .builtin .cap => true
    | _ => false
  | _ => false
/-- Does an operation only compute, or load? -/
def floatB (o : Oper) : Bool :=
  match o.op with
  | .move _ | .assign _ | .pick .. | .binOp .. | .unOp .. | .convert .. | .fieldAddr .. | .indexAddr .. | .field .. | .index .. | .extract .. | .nilCheck _ | .slice .. | .load .. => true
  | .call c => match c.callee with
    | .builtin .len | .builtin .min | .builtin .max | .builtin .cap => true
    | _ => false
  | _ => false
/-- What an operation waits for. -/
def predsOf (md : Region.Mode) (ops : Array Oper) (k : Nat) : List Nat := ((ops[k]?).map fun o => (o.after.toList.filter (Region.binds md)).map (·.on)).getD []
def clos (md : Region.Mode) (ops : Array Oper) : Nat → List Nat → List Nat
  | 0, l => l
  | n + 1, l => clos md ops n (l ++ l.flatMap (predsOf md ops)).eraseDups
/-- Does operation j wait, by others if need be, for all loads? -/
def lastB (md : Region.Mode) (ops : Array Oper) (j : Nat) : Bool :=
  let l := clos md ops 5 (predsOf md ops j)
  (List.range ops.size).all fun k => k == j || ((ops[k]?).map fun o => pureB o || !floatB o).getD true || l.contains k
/-- What was waited for has come up. -/
def Closed (md : Region.Mode) (ops : Array Oper) (listed : Array Bool) : Prop := ∀ k i, listed.getD k false = true → i ∈ predsOf md ops k → listed.getD i false = true
theorem mem_clos {listed : Array Bool} (hc : Closed md ops listed) : ∀ (n : Nat) (l : List Nat), (∀ i ∈ l, listed.getD i false = true) → ∀ i ∈ clos md ops n l, listed.getD i false = true
  | 0, l, h => h
  | n + 1, l, h => mem_clos hc n _ fun i hi => by
    rw [List.mem_eraseDups, List.mem_append, List.mem_flatMap] at hi
    rcases hi with hi | ⟨k, hk, hi⟩
    · exact h i hi
    · exact hc k i (h k hk) hi
theorem mem_predsOf {k i : Nat} {o : Oper} (ho : ops[k]? = some o) : i ∈ predsOf md ops k ↔ ∃ e ∈ o.after, Region.binds md e = true ∧ e.on = i := by
  simp only [predsOf, ho, Option.map_some, Option.getD_some, List.mem_map, List.mem_filter, Array.mem_toList_iff]
  constructor
  · rintro ⟨e, ⟨h1, h2⟩, h3⟩; exact ⟨e, h1, h2, h3⟩
  · rintro ⟨e, h1, h2, h3⟩; exact ⟨e, ⟨h1, h2⟩, h3⟩
theorem ready_preds {listed : Array Bool} {j : Nat} (hj : j ∈ Region.ready md ops listed) : ∀ i ∈ predsOf md ops j, listed.getD i false = true := by
  obtain ⟨_, oj, hoj, hall⟩ := mem_ready.1 hj
  intro i hi
  obtain ⟨e, he, hb, rfl⟩ := (mem_predsOf hoj).1 hi
  exact hall e he hb
theorem closed_set {listed : Array Bool} {j : Nat} (hc : Closed md ops listed) (hj : j ∈ Region.ready md ops listed) : Closed md ops (listed.setIfInBounds j true) := by
  intro k i hk hi
  have up : ∀ x, listed.getD x false = true → (listed.setIfInBounds j true).getD x false = true := by
    intro x hx
    by_cases e : j = x
    · subst e
      have hlt : j < listed.size := by
        rcases Nat.lt_or_ge j listed.size with h | h
        · exact h
        · simp [Array.getElem?_eq_none h] at hx
      simp [Array.getElem?_setIfInBounds_self_of_lt hlt]
    · rw [getD_set_ne false e]; exact hx
  by_cases e : j = k
  · subst e; exact up i (ready_preds hj i hi)
  · rw [getD_set_ne false e] at hk; exact up i (hc k i hk hi)
theorem closed_start : Closed md ops (Array.replicate ops.size false) := by
  intro k i hk
  rcases Nat.lt_or_ge k ops.size with h | h
  · simp [h] at hk
  · simp [Array.getElem?_eq_none (xs := Array.replicate ops.size false) (by simpa using h)] at hk
theorem lastB_spec {j i : Nat} {oi : Oper} {listed : Array Bool} (hc : Closed md ops listed) (h : lastB md ops j = true) (hj : j ∈ Region.ready md ops listed) (hi : ops[i]? = some oi) (hfl : floatB oi = true) (hp : pureB oi = false) (hne : i ≠ j) : listed.getD i false = true := by
  have := List.all_eq_true.1 h i (by simpa using (Array.getElem?_eq_some_iff.1 hi).1)
  simp only [hi, hp, hfl, Bool.not_true, Bool.or_self, Option.map_some, Option.getD_some, Bool.or_eq_true, beq_iff_eq, hne, false_or, Bool.false_eq_true] at this
  exact mem_clos hc 5 _ (ready_preds hj) i (by simpa using this)
/-- In state a, in w and in each later world in which what lies in w is as it was, the operation leaves v in its temporary and does nothing else. -/
def YieldsB (P : Program) (ops : Array Oper) (w : World) (o : Oper) (v : Value) (a : Act) : Prop := YieldsIf P ops (fun w' => pureB o = true ∨ Below w.heap.size w w') o v a
theorem YieldsB.mono {o : Oper} {v : Value} {a : Act} {w w1 : World} (h : YieldsB P ops w o v a) (hb : Below w.heap.size w w1) : YieldsB P ops w1 o v a :=
  h.imp (fun ⟨hw, hv⟩ => ⟨hw, fun w' hw' => hv w' (hw'.imp id fun hw' => below_then hb hb.size hw')⟩) id
theorem YieldsB.pure {o : Oper} {v : Value} {a : Act} {w w1 : World} (h : YieldsB P ops w o v a) (hp : pureB o = true) : YieldsB P ops w1 o v a :=
  h.imp (fun ⟨hw, hv⟩ => ⟨hw, fun w' _ => hv w' (.inl hp)⟩) id
theorem yieldsB {o : Oper} {v : Value} {a : Act} {w : World} (hw : Region.wanted o (yielded ops a.tmps) = true) (h : ∀ w', (execOp a.eval o).run P w' = .ok (.value v) w') : YieldsB P ops w o v a := .inl ⟨hw, fun w' _ => h w'⟩
theorem yieldsB_load {o : Oper} {v : Value} {a : Act} {w : World} (hp : pureB o = false) (hw : Region.wanted o (yielded ops a.tmps) = true) (h : ∀ w', Below w.heap.size w w' → (execOp a.eval o).run P w' = .ok (.value v) w') : YieldsB P ops w o v a := .inl ⟨hw, fun w' hw' => h w' (hw'.resolve_left (by simp [hp]))⟩
theorem yieldsB_skip {o : Oper} {a : Act} {w : World} (hw : Region.wanted o (yielded ops a.tmps) = false) : YieldsB P ops w o undef a := .inr ⟨hw, rfl⟩

/-- Whatever order is picked from here on, and behind each operation but the last what there was is as it was. -/
def wpAnyG (P : Program) (md : Region.Mode) (ops : Array Oper) (Q : Exit → Act → World → Prop) : Nat → Array Bool → Act → World → Prop
  | 0, listed, a, w => Region.ready md ops listed = [] ∧ Q .normal a w
  | fuel + 1, listed, a, w =>
    (Region.ready md ops listed = [] → Q .normal a w) ∧
    ∀ i ∈ Region.ready md ops listed, wpOp P ops Q i (fun a' w' => (lastB md ops i = true ∨ Below w.heap.size w w') ∧ wpAnyG P md ops Q fuel (listed.setIfInBounds i true) a' w') a w
theorem wpAny_of_G : ∀ (fuel : Nat) (listed : Array Bool) (a : Act) (w : World), wpAnyG P md ops Q fuel listed a w → wpAny P md ops Q fuel listed a w
  | 0, _, _, _, h => h
  | fuel + 1, _, _, _, h => ⟨h.1, fun i hi => wpOp_mono (fun a' w' h' => wpAny_of_G fuel _ a' w' h'.2) (h.2 i hi)⟩
theorem wpAnyG_first {i : Nat} {oi : Oper} {v : Value} (hi : ops[i]? = some oi) (hfl : floatB oi = true) (hsel : ∀ (j : Nat) (o : Oper) cs b, ops[j]? = some o → o.op ≠ .select cs b)
    (hQ : ∀ c a w, Q (.panic c) (a.put oi.dst v) w → Q (.panic c) a w) :
    ∀ (fuel : Nat) (listed : Array Bool) (a : Act) (w : World),
      (∀ j oj, ops[j]? = some oj → j ≠ i → listed.getD j true = false → (∀ e ∈ oj.after, Region.binds md e = true → e.on ≠ i) → oi.apart ops oj = true) →
      Closed md ops listed → i ∈ Region.ready md ops listed → YieldsB P ops w oi v a →
      wpAnyG P md ops Q fuel (listed.setIfInBounds i true) (a.put oi.dst v) w → wpAnyG P md ops Q (fuel + 1) listed a w := by
  intro fuel
  induction fuel with
  | zero =>
    intro listed a w _ hcl hr hy H
    refine ⟨fun h => (by rw [h] at hr; cases hr), fun j hj => ?_⟩
    by_cases hji : j = i
    · subst hji; exact YieldsIf.wpOp hi hy (.inr (Below.refl _ _)) ⟨.inr (Below.refl _ _), H⟩
    · have := ready_mono hj hji
      rw [H.1] at this
      cases this
  | succ fuel ih =>
    intro listed a w hfree hcl hr hy H
    refine ⟨fun h => (by rw [h] at hr; cases hr), fun j hj => ?_⟩
    by_cases hji : j = i
    · subst hji; exact YieldsIf.wpOp hi hy (.inr (Below.refl _ _)) ⟨.inr (Below.refl _ _), H⟩
    · have h1 := H.2 j (ready_mono hj hji)
      obtain ⟨hjun, oj, hoj, hall⟩ := mem_ready.1 hj
      have hnot : ∀ e ∈ oj.after, Region.binds md e = true → e.on ≠ i := fun e he hb heq => by
        have h1 := hall e he hb
        have h0 := (mem_ready.1 hr).1
        rw [heq] at h1
        rcases Nat.lt_or_ge i listed.size with h' | h'
        · simp [h'] at h0 h1; rw [h0] at h1; cases h1
        · simp [Array.getElem?_eq_none h'] at h1
      have hnl : pureB oi = true ∨ lastB md ops j ≠ true := by
        cases hp : pureB oi with
        | true => exact .inl rfl
        | false =>
          refine .inr fun hl => ?_
          have h1 := lastB_spec hcl hl (ready_mono hj hji |> fun _ => hj) hi hfl hp (Ne.symm hji)
          have h0 := (mem_ready.1 hr).1
          rcases Nat.lt_or_ge i listed.size with h' | h'
          · simp [h'] at h0 h1; rw [h0] at h1; cases h1
          · simp [Array.getElem?_eq_none h'] at h1
      have h2 := wpOp_putIf hoj (hfree j oj hoj hji hjun hnot) (fun cs b => hsel i oi cs b hi) (fun cs b => hsel j oj cs b hoj) hQ hy h1
      have hfree' : ∀ k ok, ops[k]? = some ok → k ≠ i → (listed.setIfInBounds j true).getD k true = false →
          (∀ e ∈ ok.after, Region.binds md e = true → e.on ≠ i) → oi.apart ops ok = true := fun k ok hk hki hun hno => by
        refine hfree k ok hk hki ?_ hno
        by_cases hjk : j = k
        · subst hjk; exact hjun
        · rw [getD_set_ne true hjk] at hun; exact hun
      refine wpOp_mono (fun a' w' h3 => ?_) h2
      obtain ⟨h3, h4, h5⟩ := h3
      have hy' : YieldsB P ops w' oi v a' := by
        rcases hnl with hp | hnl
        · exact YieldsB.pure (w := w) h3 hp
        · exact YieldsB.mono h3 (h4.resolve_left hnl)
      refine ⟨h4, ih (listed.setIfInBounds j true) a' w' hfree' (closed_set hcl hj) (ready_mono hr (Ne.symm hji)) hy' ?_⟩
      rw [Array.setIfInBounds_comm _ _ hji]
      exact h5
/-- Take number i first. -/
theorem takeG {i : Nat} {oi : Oper} {v : Value} {fuel : Nat} {listed : Array Bool} {a : Act} {w : World} (hi : ops[i]? = some oi) (hfl : floatB oi = true)
    (hs : Region.noSelect ops = true) (hcl : Closed md ops listed) (hf : Region.free md ops listed i = true) (hr : (Region.ready md ops listed).contains i = true)
    (hQ : ∀ c a w, Q (.panic c) (a.put oi.dst v) w → Q (.panic c) a w) (hy : YieldsB P ops w oi v a)
    (h : wpAnyG P md ops Q fuel (listed.setIfInBounds i true) (a.put oi.dst v) w) : wpAnyG P md ops Q (fuel + 1) listed a w :=
  wpAnyG_first hi hfl (Region.noSelect_spec hs) hQ fuel listed a w (Region.free_spec hi hf) hcl (by simpa using hr) hy h
/-- One alone may come up, and it isn't the last one. -/
theorem oneG {i : Nat} {fuel : Nat} {listed : Array Bool} {a : Act} {w : World} (hr : Region.ready md ops listed = [i])
    (h : wpOp P ops Q i (fun a' w' => Below w.heap.size w w' ∧ wpAnyG P md ops Q fuel (listed.setIfInBounds i true) a' w') a w) : wpAnyG P md ops Q (fuel + 1) listed a w :=
  ⟨(by intro h0; rw [hr] at h0; cases h0), by
    rw [hr]; intro j hj
    obtain rfl : j = i := by simpa using hj
    exact wpOp_mono (fun a' w' h' => ⟨.inr h'.1, h'.2⟩) h⟩
/-- Two may come up. -/
theorem twoG {i j : Nat} {fuel : Nat} {listed : Array Bool} {a : Act} {w : World} (hr : Region.ready md ops listed = [i, j])
    (h1 : wpOp P ops Q i (fun a' w' => Below w.heap.size w w' ∧ wpAnyG P md ops Q fuel (listed.setIfInBounds i true) a' w') a w)
    (h2 : wpOp P ops Q j (fun a' w' => Below w.heap.size w w' ∧ wpAnyG P md ops Q fuel (listed.setIfInBounds j true) a' w') a w) : wpAnyG P md ops Q (fuel + 1) listed a w :=
  ⟨(by intro h0; rw [hr] at h0; cases h0), by
    rw [hr]; intro k hk
    rcases (by simpa using hk : k = i ∨ k = j) with rfl | rfl
    · exact wpOp_mono (fun a' w' h' => ⟨.inr h'.1, h'.2⟩) h1
    · exact wpOp_mono (fun a' w' h' => ⟨.inr h'.1, h'.2⟩) h2⟩
/-- The last one: the walk goes on as in a region that doesn't draw. -/
theorem lastG {i : Nat} {o : Oper} {fuel : Nat} {listed : Array Bool} {a : Act} {w : World} (hr : Region.ready md ops listed = [i]) (hi : ops[i]? = some o) (hl : lastB md ops i = true)
    (hd : Region.ready md ops (listed.setIfInBounds i true) = []) (h : wpList P ops Q [o] a w) : wpAnyG P md ops Q (fuel + 1) listed a w :=
  ⟨(by intro h0; rw [hr] at h0; cases h0), by
    rw [hr]; intro k hk
    obtain rfl : k = i := by simpa using hk
    have h' : wpOp P ops Q k (fun a' w' => Q .normal a' w') a w := by
      unfold wpOp; simp only [hi]; simpa only [wpList] using h
    refine wpOp_mono (fun a' w' h2 => ⟨.inl hl, ?_⟩) h'
    cases fuel with
    | zero => exact ⟨hd, h2⟩
    | succ n => exact ⟨fun _ => h2, by rw [hd]; simp⟩⟩
/-- All have come up. -/
theorem doneG {fuel : Nat} {listed : Array Bool} {a : Act} {w : World} (hr : Region.ready md ops listed = []) (h : Q .normal a w) : wpAnyG P md ops Q fuel listed a w := by
  cases fuel with
  | zero => exact ⟨hr, h⟩
  | succ n => exact ⟨fun _ => h, by rw [hr]; simp⟩
/-- One operation, walked as in a region that doesn't draw. -/
theorem opG {i : Nat} {o : Oper} {K : Act → World → Prop} {a : Act} {w : World} (hi : ops[i]? = some o) (hw : Region.wanted o (yielded ops a.tmps) = true) (h : o.wp P a w K Q) : wpOp P ops Q i K a w := by
  unfold wpOp
  simp only [hi, hw, if_true]
  exact .inl h
/-- The beginning. -/
theorem regionG {id : Nat} {a : Act} {w : World} (hm : P.follows .mixedOrders = true)
    (h : wpAnyG P .any ops Q ops.size (Array.replicate ops.size false) a w.drew) : (Code.region id ops true).wp P Q a w :=
  wp_region_any hm (wpAny_of_G _ _ _ _ h)
/-! ### The same, along one order -/
def okOrder (md : Region.Mode) (ops : Array Oper) : Array Bool → List Nat → Bool
  | listed, [] => (Region.ready md ops listed).isEmpty
  | listed, i :: rest =>
    (match ops[i]? with
     | none => false
     | some o => if floatB o then (Region.ready md ops listed).contains i && Region.free md ops listed i else Region.ready md ops listed == [i]) && okOrder md ops (listed.setIfInBounds i true) rest
/-- Along the order: what floats yields its value, now and later on; what doesn't leaves old memory alone, but the last one. -/
def wpT (P : Program) (md : Region.Mode) (ops : Array Oper) (Q : Exit → Act → World → Prop) : List Nat → Act → World → Prop
  | [], a, w => Q .normal a w
  | i :: rest, a, w => ∃ o, ops[i]? = some o ∧
    ((floatB o = true ∧ ∃ v, YieldsB P ops w o v a ∧ wpT P md ops Q rest (a.put o.dst v) w) ∨
     (floatB o = false ∧ rest = [] ∧ lastB md ops i = true ∧ wpList P ops Q [o] a w) ∨
     (floatB o = false ∧ lastB md ops i = true ∧ wpOp P ops Q i (fun a' w' => wpT P md ops Q rest a' w') a w) ∨
     (floatB o = false ∧ wpOp P ops Q i (fun a' w' => Below w.heap.size w w' ∧ wpT P md ops Q rest a' w') a w))
theorem wpT_sound (hs : Region.noSelect ops = true) (hQ : ∀ c a d v w, Q (.panic c) (Act.put a d v) w → Q (.panic c) a w) :
    ∀ (l : List Nat) (fuel : Nat) (listed : Array Bool) (a : Act) (w : World), l.length ≤ fuel → Closed md ops listed → okOrder md ops listed l = true → wpT P md ops Q l a w → wpAnyG P md ops Q fuel listed a w := by
  intro l
  induction l with
  | nil =>
    intro fuel listed a w _ _ ho h
    exact doneG (by simpa [okOrder] using ho) h
  | cons i rest ih =>
    intro fuel listed a w hf hcl ho h
    obtain ⟨fuel, rfl⟩ : ∃ f, fuel = f + 1 := ⟨fuel - 1, by simp at hf; omega⟩
    obtain ⟨o, ho1, h⟩ := h
    simp only [okOrder, ho1, Bool.and_eq_true] at ho
    obtain ⟨h1, h2⟩ := ho
    rcases h with ⟨hfl, v, hy, h⟩ | ⟨hfl, rfl, hl, h⟩ | ⟨hfl, hl, h⟩ | ⟨hfl, h⟩
    · rw [if_pos hfl, Bool.and_eq_true] at h1
      exact takeG ho1 hfl hs hcl h1.2 h1.1 (fun c a w => hQ c a _ _ w) hy (ih fuel _ _ _ (by simpa using hf) (closed_set hcl (by simpa using h1.1)) h2 h)
    · rw [if_neg (by simp [hfl])] at h1
      exact lastG (by simpa using h1) ho1 hl (by simpa [okOrder] using h2) h
    · rw [if_neg (by simp [hfl])] at h1
      have hr : Region.ready md ops listed = [i] := by simpa using h1
      refine ⟨(by intro h0; rw [hr] at h0; cases h0), ?_⟩
      rw [hr]; intro j hj
      obtain rfl : j = i := by simpa using hj
      exact wpOp_mono (fun a' w' h' => ⟨.inl hl, ih fuel _ _ _ (by simpa using hf) (closed_set hcl (by rw [hr]; simp)) h2 h'⟩) h
    · rw [if_neg (by simp [hfl])] at h1
      have hr : Region.ready md ops listed = [i] := by simpa using h1
      exact oneG hr (wpOp_mono (fun a' w' h' => ⟨h'.1, ih fuel _ _ _ (by simpa using hf) (closed_set hcl (by rw [hr]; simp)) h2 h'.2⟩) h)
theorem regionT {id : Nat} {a : Act} {w : World} (l : List Nat) (hm : P.follows .mixedOrders = true) (hs : Region.noSelect ops = true) (hn : l.length ≤ ops.size)
    (ho : okOrder .any ops (Array.replicate ops.size false) l = true) (h : ∀ wd, As (∀ B, Below B w wd) → As (wd.heap.size = w.heap.size) → wpT P .any ops (NoPanic Q) l a wd) : (Code.region id ops true).wp P Q a w :=
  wp_region_noPanic (regionG hm (wpT_sound hs (fun _ _ _ _ _ h => h) l _ _ _ _ hn closed_start ho (h _ ⟨fun B => (Below.refl B w).drew⟩ ⟨rfl⟩)))
theorem wpT_float {i : Nat} {rest : List Nat} {o : Oper} {a : Act} {w : World} {v : Value} (hi : ops[i]? = some o) (hf : floatB o = true) (hw : Region.wanted o (yielded ops a.tmps) = true)
    (hy : ∀ w', (execOp a.eval o).run P w' = .ok (.value v) w') (h : wpT P md ops Q rest (a.put o.dst v) w) : wpT P md ops Q (i :: rest) a w :=
  ⟨o, hi, .inl ⟨hf, v, yieldsB hw hy, h⟩⟩
theorem wpT_load {i : Nat} {rest : List Nat} {o : Oper} {a : Act} {w : World} {v : Value} (hi : ops[i]? = some o) (hf : floatB o = true) (hp : pureB o = false) (hw : Region.wanted o (yielded ops a.tmps) = true)
    (hy : ∀ w', Below w.heap.size w w' → (execOp a.eval o).run P w' = .ok (.value v) w') (h : wpT P md ops Q rest (a.put o.dst v) w) : wpT P md ops Q (i :: rest) a w :=
  ⟨o, hi, .inl ⟨hf, v, yieldsB_load hp hw hy, h⟩⟩
theorem wpT_skip {i : Nat} {rest : List Nat} {o : Oper} {a : Act} {w : World} (hi : ops[i]? = some o) (hf : floatB o = true) (hw : Region.wanted o (yielded ops a.tmps) = false)
    (h : wpT P md ops Q rest (a.put o.dst undef) w) : wpT P md ops Q (i :: rest) a w :=
  ⟨o, hi, .inl ⟨hf, undef, yieldsB_skip hw, h⟩⟩
theorem wpT_op {i : Nat} {rest : List Nat} {o : Oper} {a : Act} {w : World} (hi : ops[i]? = some o) (hf : floatB o = false) (hw : Region.wanted o (yielded ops a.tmps) = true)
    (h : o.wp P a w (fun a' w' => Below w.heap.size w w' ∧ wpT P md ops Q rest a' w') Q) : wpT P md ops Q (i :: rest) a w :=
  ⟨o, hi, .inr (.inr (.inr ⟨hf, opG hi hw h⟩))⟩
/-- A literal's block is made. -/
theorem wpT_lit {i : Nat} {rest : List Nat} {o : Oper} {a : Act} {w : World} (t : TypeId) (n : Nat) (cs : Array Value) (hi : ops[i]? = some o) (hf : floatB o = false) (hw : Region.wanted o (yielded ops a.tmps) = true)
    (hrun : (execOp a.eval o).run P w = .ok (.value (.slice (some ⟨w.heap.size, 0, none⟩) n n)) (w.alloc (.cells cs t (0, 0))))
    (h : ∀ g w1, As (w1.heap[g]? = some (.cells cs t (0, 0))) → As (w.heap.size ≤ g) → As (Below w.heap.size w w1) → wpT P md ops Q rest (a.put o.dst (.slice (some ⟨g, 0, none⟩) n n)) w1) : wpT P md ops Q (i :: rest) a w := by
  refine wpT_op hi hf hw ?_
  unfold Oper.wp
  rw [hrun]
  exact ⟨alloc_below _ _, h _ _ ⟨blk_new _ _⟩ ⟨Nat.le_refl _⟩ ⟨alloc_below _ _⟩⟩
theorem wpT_opskip {i : Nat} {rest : List Nat} {o : Oper} {a : Act} {w : World} (hi : ops[i]? = some o) (hf : floatB o = false) (hw : Region.wanted o (yielded ops a.tmps) = false)
    (h : wpT P md ops Q rest (a.put o.dst undef) w) : wpT P md ops Q (i :: rest) a w :=
  ⟨o, hi, .inr (.inr (.inr ⟨hf, by unfold wpOp; simp only [hi, hw]; exact ⟨Below.refl _ _, h⟩⟩))⟩
theorem wpT_last {i : Nat} {o : Oper} {a : Act} {w : World} (hi : ops[i]? = some o) (hf : floatB o = false) (hl : lastB md ops i = true)
    (h : wpList P ops Q [o] a w) : wpT P md ops Q [i] a w :=
  ⟨o, hi, .inr (.inl ⟨hf, rfl, hl, h⟩)⟩
/-- Q, but K where the region goes on. -/
def QT (Q : Exit → Act → World → Prop) (K : Act → World → Prop) : Exit → Act → World → Prop
  | .normal, a, w => K a w
  | e, a, w => Q e a w
theorem wpT_lastThen {i : Nat} {rest : List Nat} {o : Oper} {a : Act} {w : World} (hi : ops[i]? = some o) (hf : floatB o = false) (hl : lastB md ops i = true) (hw : Region.wanted o (yielded ops a.tmps) = true)
    (h : wpList P ops (QT Q (wpT P md ops Q rest)) [o] a w) : wpT P md ops Q (i :: rest) a w := by
  refine ⟨o, hi, .inr (.inr (.inl ⟨hf, hl, ?_⟩))⟩
  unfold wpOp
  simp only [hi, hw, if_true]
  unfold wpList at h
  rw [if_pos hw] at h
  refine h.imp (fun h => ?_) (fun h => h)
  unfold Oper.wp at *
  generalize (execOp a.eval o).run P w = r at *
  cases r with
  | ok n w' =>
    cases n <;> simp only [Oper.upon] at h ⊢
    case value v => exact h
    case skip => exact h
    case defer d => exact h
    case enter f args => exact h.mono fun e w'' he => by cases e <;> exact he
    case row row args => exact h
  | halt x w' => cases x <;> first | exact h | exact h.elim
theorem wpT_done {a : Act} {w : World} (h : Q .normal a w) : wpT P md ops Q [] a w := h
end
end Go.Proofs.Ytdcjionaedcfoaa.L
