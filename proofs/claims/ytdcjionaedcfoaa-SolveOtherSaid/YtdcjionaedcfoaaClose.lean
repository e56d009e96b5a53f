/- How a law's row is closed: a law leaves old memory alone, so that each argument reads as it did. -/
import Derived.Test.YtdcjionaedcfoaaRows
import Derived.Test.YtdcjionaedcfoaaL
import Derived.ProofKit
import Derived.Below
import Derived.WideKeyArgs
import Derived.OpenShut
set_option linter.unusedVariables false
set_option linter.unusedSimpArgs false
namespace Go.Proofs.Ytdcjionaedcfoaa.Close
open Go.ChangeShapes Go.WideShapes Go.ChangeAt Go.RowKit Go.Proofs.Ytdcjionaedcfoaa.L

theorem own : ownKnob Try.prog.godebug = none := by kernel_rfl
theorem laid : laidOutB Try.prog = true := by kernel_rfl
section
variable {H : Type} {enc : TypeId × Value → H} {W W' : World}
theorem trodAll_stays {sp : Nat → Bool} (hb : Below W.heap.size W W') : ∀ (ts : List TypeId) (vs : List Value) (ds : List (DataW H)) (ps : List MemPlace),
    (∀ t ∈ ts, Try.prog.readableRec t = true ∧ t < Try.prog.types.size) → DataW.TrodAll enc Try.prog W 0 (fun _ => true) true ts vs ds ps → (∀ p ∈ ps, p.block < W.heap.size) → (∀ p ∈ ps, sp p.block = true) → DataW.TrodAll enc Try.prog W' 0 sp true ts vs ds ps
  | [], vs, ds, ps, _, h, _, _ => by
    obtain ⟨rfl, rfl, rfl⟩ := trodAll_nil h
    exact trodAll_mk0
  | t :: ts, vs, ds, ps, ht, h, hlt, hsp => by
    obtain ⟨v, vs', d, ds', p, q, rfl, rfl, rfl, h0, h1⟩ := trodAll_cons h
    have ht0 := ht t (by simp)
    exact trodAll_cons_mk (WideElems.Trod_stays laid ht0.1 ht0.2 h0 (fun x hx => hb.same (hlt x (by simp [hx]))) (fun x hx => hsp x (by simp [hx])))
      (trodAll_stays hb ts vs' ds' q (fun t ht' => ht t (by simp [ht'])) h1 (fun x hx => hlt x (by simp [hx])) (fun x hx => hsp x (by simp [hx])))
/-- What a law's row asks for behind the call. -/
theorem law_post {f : Func} {s : ChangeSpec} {tb : TypeId} {args : Array Value} {ds gs : List (DataW H)} {before : List MemPlace} (hv : s.vars = []) (hf : f.resultTypes = #[tb]) (hu : Try.prog.underlying tb = some .bool)
    (hp : ∀ t ∈ f.params.toList, Try.prog.readableRec t = true ∧ t < Try.prog.types.size) (hs : s.fn H ds = { results := [.lit (.bool true)], args := ds })
    (hW : DataW.Whole enc Try.prog f.params.toList s.vars false W args.toList ds gs before) (hb : Below W.heap.size W W') : s.post enc Try.prog f false true false false W args (.bool true) W' := by
  have hW' := hW
  obtain ⟨p, q, hA, hV, rfl, hfz, hnd⟩ := hW
  rw [hv] at hV
  obtain ⟨rfl, rfl⟩ := trodVars_none hV
  have hlt : ∀ x ∈ p, x.block < W.heap.size := fun x hx => hW'.lt x (by simp [hx])
  have hout : s.fn H (ds ++ []) = { results := [.lit (.bool true)], args := ds } := by rw [List.append_nil]; exact hs
  refine ⟨ds, [], p ++ [], [], p, [], hW', ?_, ?_, ?_, World.keptBut_mono (fun x hx => ⟨hx, ?_⟩) (hb.frame (· ∈ p ++ [])), fun h => by cases h⟩
  · rw [hout, hf]
    exact trodAll_cons_mk (shut_bool hu true) trodAll_mk0
  · rw [hout]
    exact trodAll_stays hb _ _ _ _ hp hA hlt (fun x hx => by simpa using hlt x hx)
  · rw [hout, hv]
    rfl
  · right; left
    simpa using hx
end
section
variable {H : Type} {enc : TypeId × Value → H} {P : Program} {W W' : World}
/-- A slice of numbers that came in. -/
theorem open_cells {t e : TypeId} {k : IntKind} {A : Option Addr} {n c m : Nat} {y : DataW H × List MemPlace} (ht : P.underlying t = some (.slice e)) (he : P.underlying e = some (.int k)) (hc : P.cellsOf e = 1)
    (h : DataW.trod enc P W 0 (fun _ => true) true m t [.slice A n c] = some y) :
    ∃ (zs : List Int), Rd (Value.int k) W A n zs ∧ n ≤ c ∧ (A = none → c = 0) ∧ ∀ z ∈ zs, (Lit.int k z).wf = true := by
  rcases ChangeShapes.open_ints ht he hc h with ⟨h1, _⟩ | ⟨a, len, cap, zs, h1, _, hl, hm, hz, _, hcell, hwf⟩
  · cases h1
    exact ⟨[], Rd.nil _ _ _, Nat.le_refl _, fun _ => rfl, by simp⟩
  · cases h1
    simp only [if_true] at hz
    refine ⟨zs.take n, ⟨by simp; omega, by simp only [maxLen] at hm; omega, fun hp => ⟨a, rfl, fun j u hj => ?_⟩⟩, hl, (fun h => by cases h), fun z hz' => hwf z (List.mem_of_mem_take hz')⟩
    rw [List.getElem?_map] at hj
    obtain ⟨z, hz1, rfl⟩ := Option.map_eq_some_iff.1 hj
    have hjn : j < n := by have := (List.getElem?_eq_some_iff.1 hz1).1; simp at this; omega
    rw [List.getElem?_take_of_lt hjn] at hz1
    rw [hcell j (by omega), List.getD_eq_getElem?_getD, hz1]; rfl
theorem open_cellsV {t e : TypeId} {k : IntKind} {v : Value} {m : Nat} {y : DataW H × List MemPlace} (ht : P.underlying t = some (.slice e)) (he : P.underlying e = some (.int k)) (hc : P.cellsOf e = 1)
    (h : DataW.trod enc P W 0 (fun _ => true) true m t [v] = some y) :
    ∃ (A : Option Addr) (n c : Nat) (zs : List Int), v = .slice A n c ∧ Rd (Value.int k) W A n zs ∧ n ≤ c ∧ (A = none → c = 0) ∧ ∀ z ∈ zs, (Lit.int k z).wf = true := by
  have h0 := h
  rcases ChangeShapes.open_ints ht he hc h with ⟨h1, _⟩ | ⟨a, len, cap, zs, h1, _⟩
  · cases h1
    obtain ⟨zs, h2⟩ := open_cells ht he hc h0
    exact ⟨_, _, _, zs, rfl, h2⟩
  · cases h1
    obtain ⟨zs, h2⟩ := open_cells ht he hc h0
    exact ⟨_, _, _, zs, rfl, h2⟩
theorem open_rd {r : Reach} {base : Nat} {t e : TypeId} {k : IntKind} {v : Value} {d : DataW H} {ps : List MemPlace} (ht : P.underlying t = some (.slice e)) (he : P.underlying e = some (.int k)) (hc : P.cellsOf e = 1)
    (hval : Value.okWide P W r base t v) (h : DataW.Trod enc P W 0 (fun _ => true) true t v d ps) :
    ∃ (A : Option Addr) (n c : Nat) (zs : List Int), v = .slice A n c ∧ Rd (Value.int k) W A n zs ∧ n ≤ c ∧ (A = none → c = 0) ∧ ∀ z ∈ zs, (Lit.int k z).wf = true := by
  obtain ⟨A, n, c, rfl⟩ := WideShapes.okWide_slice ht hval
  obtain ⟨m, hm⟩ := h
  obtain ⟨zs, h1⟩ := open_cells ht he hc hm
  exact ⟨A, n, c, zs, rfl, h1⟩
end
theorem u8_wf {z : Int} (h : (Lit.int .u8 z).wf = true) : 0 ≤ z ∧ z ≤ 255 := by
  simpa [Lit.wf, IntKind.min, IntKind.max, IntKind.signed, IntKind.bits] using h
def u8 (z : Int) : UInt8 := UInt8.ofNat z.toNat
theorem u8_back {z : Int} (h : (Lit.int .u8 z).wf = true) : B (u8 z) = Value.int .u8 z := by
  have hx := u8_wf h
  obtain ⟨n, rfl⟩ : ∃ n : Nat, z = (n : Int) := ⟨z.toNat, by omega⟩
  unfold B u8
  rw [Int.toNat_natCast, UInt8.toNat_ofNat', Nat.mod_eq_of_lt (by omega)]
theorem rd_bytes {W : World} {A : Option Addr} {n : Nat} {zs : List Int} (h : Rd (Value.int .u8) W A n zs) (hw : ∀ z ∈ zs, (Lit.int .u8 z).wf = true) : Rd B W A n (zs.map u8) := by
  unfold Rd at *
  rw [List.map_map]
  have : zs.map (B ∘ u8) = zs.map (Value.int .u8) := List.map_congr_left fun z hz => u8_back (hw z hz)
  rw [this]; exact h
end Go.Proofs.Ytdcjionaedcfoaa.Close
