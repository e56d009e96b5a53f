/- SolveBack: a codeword that was spoilt within what may be is mended to itself, whatever the code: no conditions. -/
import Derived.Test.YtdcjionaedcfoaaLawS3
import Derived.Test.YtdcjionaedcfoaaClose
import Derived.Lib.SmallJoins
import Derived.Deep.SlicePairs
set_option linter.unusedVariables false
set_option linter.unusedSimpArgs false
namespace Go.Proofs.Ytdcjionaedcfoaa.solveBack
open Go.ChangeShapes Go.WideShapes Go.ChangeAt Go.RowKit Go.Proofs.Ytdcjionaedcfoaa.L Go.Proofs.Ytdcjionaedcfoaa.Close

section
variable {H : Type} {enc : TypeId × Value → H} {P : Program} {W : World}
theorem open_turns {t e : TypeId} {f0 f1 : Field} {v : Value} {fuel : Nat} {x : DataW H × List MemPlace} (ht : P.underlying t = some (.slice e)) (he : P.underlying e = some (.struct #[f0, f1]))
    (ce : P.cellsOf e = 2) (o0 : f0.offset = 0) (o1 : f1.offset = 1) (c0 : P.cellsOf f0.type = 1) (c1 : P.cellsOf f1.type = 1) (k0 : P.underlying f0.type = some (.int .i64)) (k1 : P.underlying f1.type = some (.int .u8))
    (h : DataW.trod enc P W 0 (fun _ => true) true fuel t [v] = some x) : ∃ (A : Option Addr) (n c : Nat) (ts : List (Int × UInt8)), v = .slice A n c ∧ LawS.RdT W A n ts := by
  rcases Deep.open_slice_pairs ht he ce o0 o1 c0 c1 h with ⟨h1, _⟩ | ⟨a, len, cap, m, n, V0, V1, D0, D1, P0, P1, h1, _, hl, hm, hmm, _, hc⟩
  · cases h1
    exact ⟨none, 0, 0, [], rfl, rfl, by omega, fun h => absurd h (by omega)⟩
  · cases h1
    simp only [if_true] at hmm
    have num : ∀ i, i < len → ∃ z : Int × UInt8, V0 i = I z.1 ∧ V1 i = B z.2 := by
      intro i hi
      obtain ⟨_, _, h3, h4⟩ := hc i (by omega)
      obtain ⟨z, hz, _⟩ := DataW.trod_int k0 h3
      obtain ⟨y, hy, _, hw⟩ := DataW.trod_int k1 h4
      simp only [List.cons.injEq, and_true] at hz hy
      exact ⟨(z, u8 y), hz, by rw [hy]; exact (u8_back hw).symm⟩
    refine ⟨some a, len, cap, (List.range len).map fun i => if h : i < len then Classical.choose (num i h) else (0, 0), rfl, by simp, by simp only [maxLen] at hm; omega, fun _ => ⟨a, rfl, fun j t hj => ?_⟩⟩
    rw [List.getElem?_map] at hj
    obtain ⟨i, hi, rfl⟩ := Option.map_eq_some_iff.1 hj
    have hjl : j < len := by have := (List.getElem?_eq_some_iff.1 hi).1; simpa using this
    rw [List.getElem?_range hjl] at hi
    cases hi
    obtain ⟨h5, h6⟩ := Classical.choose_spec (num j hjl)
    obtain ⟨h3, h4, _, _⟩ := hc j (by omega)
    rw [dif_pos hjl]
    refine ⟨h3.trans (congrArg some h5), ?_⟩
    have hadd : ∀ k, (⟨(a.add k).block, (a.add k).off + 1, none⟩ : Addr) = a.add (k + 1) := fun k => by
      unfold Addr.add
      by_cases hk : k = 0
      · subst hk; rfl
      · rw [if_neg hk, if_neg (by omega)]; rfl
    rw [hadd]
    exact h4.trans (congrArg some h6)
end
theorem cellsB : Try.prog.cellsOf 5 = 1 := by kernel_rfl
theorem cellsI : Try.prog.cellsOf 3 = 1 := by kernel_rfl
theorem kinds : ∀ t ∈ Try.f11.params.toList, Try.prog.readableRec t = true ∧ t < Try.prog.types.size := by
  rw [Try.params11]
  intro t ht
  simp at ht
  rcases ht with rfl | rfl | rfl <;> exact ⟨by kernel_rfl, of_decide_eq_true (by kernel_rfl)⟩
set_option maxRecDepth 100000 in
theorem lifted (os : Os) (started : os.Started) (H : Type) (enc : TypeId × Value → H) :
    ReturnsInHanded {} Try.checked os 11 .any (Rows.solveBackSpec.pre6 enc Try.prog Try.f11 Rows.solveBackRow.domain false) (Rows.solveBackSpec.post enc Try.prog Try.f11 false true false false) := by
  refine returnsInHanded_of_change (C := Try.checked) own started (by kernel_rfl) Try.func11
    (ChangeSpec.witness6 (enc := enc) (C := Try.checked) false ⟨#[], #[.int .i64 0, .int .i64 0, .agg #[.slice none 0 0, .slice none 0 0, .slice none 0 0]], []⟩ 8 (by kernel_rfl) (by kernel_rfl) (by kernel_rfl) (by kernel_rfl)) ?_
  intro W base args ds gs before hval0 hW hcnd _
  have hval : ∀ (j : Nat) t v, Try.f11.params[j]? = some t → args[j]? = some v → Value.okWide Try.prog W .any base t v := hval0
  have hW' := hW
  obtain ⟨p, q, hA0, hV, rfl, hfz, hnd⟩ := hW
  have hA : DataW.TrodAll enc Try.prog W 0 (fun _ => true) true Try.f11.params.toList args.toList ds p := hA0
  rw [Try.params11] at hA hval
  obtain ⟨v0, vs0, d0, ds0, p0, q0, hargs, rfl, rfl, h0, r0⟩ := trodAll_cons hA
  obtain ⟨v1, vs1, d1, ds1, p1, q1, rfl, rfl, rfl, h1, r1⟩ := trodAll_cons r0
  obtain ⟨v2, vs2, d2, ds2, p2, q2, rfl, rfl, rfl, h2, r2⟩ := trodAll_cons r1
  obtain ⟨rfl, rfl, rfl⟩ := trodAll_nil r2
  obtain rfl : args = #[v0, v1, v2] := by cases args; simp_all
  obtain ⟨n, rfl, rfl, rfl, wn⟩ := open_int Try.underlying3 (hval 0 3 v0 rfl rfl) h0
  obtain ⟨k, rfl, rfl, rfl, wk⟩ := open_int Try.underlying3 (hval 1 3 v1 rfl rfl) h1
  obtain ⟨u0, u1, u2, y0, y1, y2, fu, rfl, rfl, rfl, hy0, hy1, hy2⟩ := Joins.open_agg3 Try.underlying116 (by kernel_rfl) (by kernel_rfl) (hval 2 116 v2 rfl rfl) h2
  obtain ⟨A, m, c, zs, rfl, hrd, hnc, hAc, hwf⟩ := open_cellsV Try.underlying39 Try.underlying5 cellsB hy0
  obtain ⟨A2, m2, c2, er, rfl, hrd2, hnc2, hAc2, hwf2⟩ := open_cellsV Try.underlying45 Try.underlying3 cellsI hy1
  obtain ⟨A3, m3, c3, ts, rfl, hrd3⟩ := open_turns Try.underlying114 Try.underlying121 (by kernel_rfl) rfl rfl cellsI cellsB Try.underlying3 Try.underlying5 hy2
  clear hA0 hval0
  refine (LawS.back_any n k A A2 A3 m c m2 c2 m3 c3 (zs.map u8) er ts W (rd_bytes hrd hwf) hnc hAc hrd2 hwf2 hrd3).mono fun e W' ⟨he, hb⟩ => ?_
  subst he
  exact ⟨_, rfl, law_post rfl rfl Try.underlying4 kinds rfl hW' hb⟩
theorem proved : Rows.SolveBackSaid :=
  OpenClaim.holds_of_wide 11 Try.f11 rfl rfl rfl rfl rfl rfl rfl ⟨rfl, rfl, rfl, rfl, rfl⟩ rfl rfl rfl rfl rfl (by kernel_rfl) Try.func11 (by kernel_rfl)
    (of_decide_eq_true (by kernel_rfl)) (by unfold Func.isWrapper; first | (rw [if_pos (by decide +kernel)]; kernel_rfl) | (rw [if_neg (by decide +kernel)]; exact ⟨rfl, rfl⟩))
    (fun os started H enc _ => lifted os started H enc)
end Go.Proofs.Ytdcjionaedcfoaa.solveBack
#print axioms Go.Proofs.Ytdcjionaedcfoaa.solveBack.proved
