/- Walks of layer 6 (rs): Right, Parity, Encode. -/
import Derived.Test.YtdcjionaedcfoaaRs2
set_option linter.unusedVariables false
set_option linter.unusedSimpArgs false
namespace Go.Proofs.Ytdcjionaedcfoaa.Rs
open Go.RowKit Go.Proofs.Ytdcjionaedcfoaa.L Go.Proofs.Ytdcjionaedcfoaa.Gf Go.Proofs.Ytdcjionaedcfoaa.Poly

theorem right1_any (x : UInt8) (w : World) : Calls Try.prog 117 #[B x] w fun e w' => e = .returned (.bool (nz x)) ∧ w = w' := by
  have h : As (((x.toNat : Int) != 0) = nz x) := ⟨by
    unfold nz
    by_cases hx : x = 0
    · subst hx; rfl
    · have := u8_ne0 hx
      rw [bne, this]; simp [hx]⟩
  go_enter Try.func117, Try.ntmps117
  go_wp2
  go_ret
  exact ⟨by rw [← h.out]; rfl, rfl⟩
theorem right1_enters (args : Array Value) (w : World) : (callFunc 117 args).run Try.prog w = .ok (.enter 117 args) w := by kernel_rfl
def rightB (m : Nat) (word : List UInt8) : Bool := !(syn m word).any nz
theorem right_any (c p n k : Nat) (A : Option Addr) (m cc : Nat) (A2 : Option Addr) (c2 : Nat) (word : List UInt8) (w : World) (hc : CodeAt w c p n k A m cc) (hl : Rd B w A2 n word) :
    Calls Try.prog 64 #[.pointer (some ⟨c, 0, none⟩), .slice A2 n c2] w fun e w' => e = .returned (.bool (rightB (n - k) word)) ∧ Below w.heap.size w w' := by
  have HC := As.mk hc; clear hc
  have HL := As.mk hl; clear hl
  have HR : As (rightB (n - k) word = !(syn (n - k) word).any nz) := ⟨rfl⟩
  go_enter Try.func64, Try.ntmps64
  go_wp2_with fail
  refine (syn_any c p n k A m cc A2 c2 word _ HC.out HL.out).mono ?_
  rintro e w1 ⟨A3, m3, c3, rfl, hown3, hA3, hC3, hb3⟩
  have HO3 := As.mk hown3
  have HB3 := As.mk hb3
  clear hown3 hA3 hC3 hb3
  generalize hz : (syn (n - k) word).any nz = z at *
  have HZ := As.mk hz
  clear hz
  go_wp2_with (go_at_call 116; refine (containsFunc_any _ nz right1_enters right1_any _ _ _ (syn (n - k) word) _ HO3.out.rd'.2).mono ?_; rw [HZ.out]; rintro e w' ⟨rfl, rfl⟩)
  go_ret
  exact ⟨by rw [HR.out]; rfl, HB3.out⟩
theorem right_bad (c p n k : Nat) (A : Option Addr) (m cc : Nat) (A2 : Option Addr) (n2 c2 : Nat) (w : World) (hc : CodeAt w c p n k A m cc) (hn : n2 ≠ n) :
    Calls Try.prog 64 #[.pointer (some ⟨c, 0, none⟩), .slice A2 n2 c2] w fun e w' => e = .returned (.bool false) ∧ w = w' := by
  have HC := As.mk hc; clear hc
  have HN := As.mk hn; clear hn
  go_enter Try.func64, Try.ntmps64
  go_wp2_with fail
  refine (syn_bad c p n k A m cc A2 n2 c2 _ HC.out HN.out).mono ?_
  rintro e w1 ⟨rfl, rfl⟩
  go_wp2_with fail
  go_ret
  exact ⟨rfl, rfl⟩

/-! ### Parity -/
def parityOf (m : Nat) (data : List UInt8) : List UInt8 :=
  let r := (pdiv (pshift data m) (genOf m)).2
  List.replicate (m - r.length) 0 ++ r
theorem par_bad (c p n k : Nat) (A : Option Addr) (m cc : Nat) (A2 : Option Addr) (n2 c2 : Nat) (w : World) (hc : CodeAt w c p n k A m cc) (hn : n2 ≠ k) :
    Calls Try.prog 118 #[.pointer (some ⟨c, 0, none⟩), .slice A2 n2 c2] w fun e w' => e = .returned (.tuple #[.slice none 0 0, I 1]) ∧ w = w' := by
  obtain ⟨x0, x1, x2, _, _, _, _⟩ := hc
  have e1 : ((n2 : Int) != k) = true := by rw [bne_iff_ne]; omega
  have e2 : (n2 != k) = true := by rw [bne_iff_ne]; omega
  clear hn
  go_enter Try.func118, Try.ntmps118
  go_wp2_with fail
  go_ret2
  exact ⟨rfl, rfl⟩
theorem par_nil (v : Value) (w : World) : Calls Try.prog 118 #[.pointer none, v] w fun e w' => e = .returned (.tuple #[.slice none 0 0, I 1]) ∧ w = w' := by
  go_enter Try.func118, Try.ntmps118
  go_wp2_with fail
  go_ret2
  exact ⟨rfl, rfl⟩
theorem pshift_len (a : List UInt8) (m : Nat) : (pshift a m).length ≤ a.length + m := by
  unfold pshift
  split
  · simp
  · have := trim_le a
    rw [List.length_append, List.length_replicate]; omega
theorem pmulF_len : ∀ (l : List (List UInt8)) (out : List UInt8), (pmulF l out).length ≤ out.length + lens l
  | [], out => by simp [pmulF]
  | a :: l, out => by
    have h1 := pmulF_len l (ptwo out a)
    have h2 := ptwo_len out a
    have h3 : lens (a :: l) = a.length + lens l := by simp [lens]
    rw [pmulF, h3]; omega
theorem genOf_len (m : Nat) : (genOf m).length ≤ 1 + 2 * m := by
  have h := pmulF_len (pfacs ((List.range m).map fun (i : Nat) => gexp (i : Int))) [1]
  rw [lens_facs] at h
  simpa [genOf, proots, pmul] using h
set_option maxRecDepth 100000 in
set_option maxHeartbeats 2000000 in
theorem par_any (c p n k : Nat) (A : Option Addr) (m cc : Nat) (A2 : Option Addr) (c2 : Nat) (data : List UInt8) (w : World) (hc : CodeAt w c p n k A m cc) (hl : Rd B w A2 k data) (hk2 : k ≤ c2) (hg0 : trim (genOf (n - k)) ≠ []) (hr : (pdiv (pshift data (n - k)) (genOf (n - k))).2.length ≤ n - k) :
    Calls Try.prog 118 #[.pointer (some ⟨c, 0, none⟩), .slice A2 k c2] w (RetBE w (parityOf (n - k) data) 0) := by
  have HC := As.mk hc
  have HL := As.mk hl; clear hl
  have HG := As.mk hg0; clear hg0
  have HRL := As.mk hr; clear hr
  obtain ⟨x0, x1, x2, x3, _, _, ⟨k1, k2, k3, k4⟩⟩ := hc
  have e1 : ((k : Int) != k) = false := by simp
  go_enter Try.func118, Try.ntmps118
  go_wp2_with fail
  have q1 : IntKind.i64.wrap ((n : Int) - k) = ((n - k : Nat) : Int) := by rw [IntWalk.i64_in _ (by omega)]; omega
  refine regionT [0, 1, 2, 3, 4, 5, 6, 7, 8, 9] mixed (by kernel_rfl) (by decide) (by kernel_rfl) ?_
  intro wd hd _
  have HCD : As (CodeAt wd c p n k A m cc) := ⟨HC.out.below (hd.out _)⟩
  iterate 3 (refine wpT_float rfl rfl rfl (fun w' => by go_simp; rfl) ?_; try simp only [Act.put, List.getElem_toArray, List.getElem_cons_zero, List.getElem_cons_succ, List.setIfInBounds_toArray, List.set_cons_zero, List.set_cons_succ])
  (refine wpT_load rfl rfl rfl rfl (fun w' hw' => by obtain ⟨x0, x1, x2, x3, _, _, _⟩ := HCD.out.below hw'; go_simp; rfl) ?_; try simp only [Act.put, List.getElem_toArray, List.getElem_cons_zero, List.getElem_cons_succ, List.setIfInBounds_toArray, List.set_cons_zero, List.set_cons_succ])
  iterate 3 (refine wpT_float rfl rfl rfl (fun w' => by go_simp; rfl) ?_; try simp only [Act.put, List.getElem_toArray, List.getElem_cons_zero, List.getElem_cons_succ, List.setIfInBounds_toArray, List.set_cons_zero, List.set_cons_succ])
  (refine wpT_load rfl rfl rfl rfl (fun w' hw' => by obtain ⟨x0, x1, x2, x3, _, _, _⟩ := HCD.out.below hw'; go_simp; rfl) ?_; try simp only [Act.put, List.getElem_toArray, List.getElem_cons_zero, List.getElem_cons_succ, List.setIfInBounds_toArray, List.set_cons_zero, List.set_cons_succ])
  iterate 2 (refine wpT_float rfl rfl rfl (fun w' => by go_simp; rfl) ?_; try simp only [Act.put, List.getElem_toArray, List.getElem_cons_zero, List.getElem_cons_succ, List.setIfInBounds_toArray, List.set_cons_zero, List.set_cons_succ])
  refine wpT_done (NoPanic.normal ?_)
  have HBD : As (Below w.heap.size w wd) := ⟨hd.out _⟩
  clear q1 x0 x1 x2 x3 hd e1 HCD
  generalize hM : n - k = M at *
  have HM := As.mk hM
  clear hM
  go_wp2_with fail
  refine regionT [0, 1, 2, 3, 4, 5, 7, 8, 9, 10, 6, 11, 12, 13, 14, 15, 16, 17, 18] mixed (by kernel_rfl) (by decide) (by kernel_rfl) ?_
  intro wx hx _
  have HCD : As (CodeAt wx c p n k A m cc) := ⟨(HC.out.below HBD.out).below (hx.out _)⟩
  have HLX : As (Rd B wx A2 k data) := ⟨(HL.out.below HBD.out).below (hx.out _)⟩
  have HBX : As (Below w.heap.size w wx) := ⟨HBD.out.trans (hx.out _)⟩
  clear HL HBD hx
  iterate 3 (refine wpT_float rfl rfl rfl (fun w' => by go_simp; rfl) ?_; try simp only [Act.put, List.getElem_toArray, List.getElem_cons_zero, List.getElem_cons_succ, List.setIfInBounds_toArray, List.set_cons_zero, List.set_cons_succ])
  (refine wpT_load rfl rfl rfl rfl (fun w' hw' => by obtain ⟨x0, x1, x2, x3, _, _, _⟩ := HCD.out.below hw'; go_simp; rfl) ?_; try simp only [Act.put, List.getElem_toArray, List.getElem_cons_zero, List.getElem_cons_succ, List.setIfInBounds_toArray, List.set_cons_zero, List.set_cons_succ])
  iterate 5 (refine wpT_float rfl rfl rfl (fun w' => by go_simp; rfl) ?_; try simp only [Act.put, List.getElem_toArray, List.getElem_cons_zero, List.getElem_cons_succ, List.setIfInBounds_toArray, List.set_cons_zero, List.set_cons_succ])
  (refine wpT_load rfl rfl rfl rfl (fun w' hw' => by obtain ⟨x0, x1, x2, x3, _, _, _⟩ := HCD.out.below hw'; go_simp; rfl) ?_; try simp only [Act.put, List.getElem_toArray, List.getElem_cons_zero, List.getElem_cons_succ, List.setIfInBounds_toArray, List.set_cons_zero, List.set_cons_succ])
  refine wpT_op rfl rfl rfl ?_
  go_simp
  refine (shift_any A2 k c2 data M wx (by omega) hk2 (by omega) HLX.out).mono ?_
  rintro e w1 ⟨A3, m3, c3, rfl, hown3, hA3, hC3, hb3⟩
  refine ⟨hb3, ?_⟩
  have HO3 := As.mk hown3
  have HC3 := As.mk hC3
  have HB3 := As.mk hb3
  clear hown3 hA3 hC3 hb3
  have hm3 := HO3.out.rd'.1
  have hs := pshift_len data M
  have hl := HLX.out.len
  have hm3' : m3 ≤ 70368744177664 := by omega
  have hgl := genOf_len M
  have HGN : As (m ≤ cc ∧ Rd B w1 A m (genOf M)) := ⟨HM.out ▸ ((HCD.out.below HB3.out).gen)⟩
  have hm' : m ≤ 70368744177664 := by have := HGN.out.2.len; omega
  have HM3 := As.mk hm3'
  have HMM := As.mk hm'
  clear hm3 hs hl hgl hm3' hm'
  refine wpT_op rfl rfl rfl ?_
  go_simp
  refine (divmod_any p A3 A m3 c3 m cc (pshift data M) (genOf M) w1 (HCD.out.below HB3.out).field HM3.out HMM.out HC3.out HGN.out.1 HG.out HO3.out.rd'.2 HGN.out.2).mono ?_
  rintro e w2 ⟨A4, m4, c4, A5, m5, c5, rfl, hown4, hown5, hA4, hC4, hA5, hC5, hb5⟩
  refine ⟨hb5, ?_⟩
  have HO5 := As.mk hown5
  have HA5 := As.mk hA5
  have HB5 := As.mk hb5
  have h5 := hown5.rd'.1
  have h6 := HRL.out
  have h7 : m5 ≤ M := by omega
  have H5 := As.mk h5
  clear hown4 hown5 hA4 hC4 hA5 hC5 hb5 h5 h6
  iterate 7 (refine wpT_float rfl rfl rfl (fun w' => by go_simp; rfl) ?_; try simp only [Act.put, List.getElem_toArray, List.getElem_cons_zero, List.getElem_cons_succ, List.setIfInBounds_toArray, List.set_cons_zero, List.set_cons_succ])
  refine wpT_done (NoPanic.normal ?_)
  have HM5 : As ((M : Int) - m5 = ((M - m5 : Nat) : Int)) := ⟨by omega⟩
  have HB25 : As (Below w.heap.size w w2) := ⟨below_then (below_then HBX.out HBX.out.size HB3.out) (Nat.le_trans HBX.out.size HB3.out.size) HB5.out⟩
  have HE : As (List.replicate (M - m5) (Value.int .u8 0) ++ (pdiv (pshift data M) (genOf M)).2.map B = (parityOf M data).map B) := ⟨by
    unfold parityOf
    rw [List.map_append, List.map_replicate, ← H5.out]; rfl⟩
  generalize hr : (pdiv (pshift data M) (genOf M)).2 = r at *
  have HR := As.mk hr
  clear hr
  generalize hp : parityOf M data = pr at *
  have HPP := As.mk hp
  clear hp
  have hMM : M - m5 + m5 = M := by omega
  have HMM5 := As.mk hMM
  clear hMM
  generalize hd5 : M - m5 = D at *
  have hD : D ≤ M := by omega
  have HD := As.mk hd5
  clear hd5
  go_wp2_with (first | (at_make; refine make_event w w.heap.size 39 5 (.int .u8 0) 1 _ _ D rfl rfl Try.underlying39 info_u8 rfl (by exact congrArg _ HM5.out) (by exact congrArg _ HM5.out) (by omega) (by omega) HB25.out HB25.out.size ?_; intro w3 HQ HB35 HB3' hsz) | (at_builtin; refine append_event w w.heap.size 39 5 (.int .u8 0) 1 1 _ _ rfl rfl Try.underlying39 info_u8 rfl (by decide) _ D _ A5 m5 c5 (r.map B) rfl rfl HA5.out HQ.out (RdV.below HO5.out.rd'.2 HB3'.out) (oneB r) HB35.out HB35.out.size (by omega) (by decide) M HMM5.out _ HE.out ?_; intro A6 c6 w6 hown6 hA6 hC6 hb6 hg6 _))
  go_ret2
  exact ⟨A6, M, c6, rfl, Own.of_row hown6.out, hA6.out, hC6.out, hb6.out⟩

/-! ### Encode -/
def encodeOf (m : Nat) (data : List UInt8) : List UInt8 := data ++ parityOf m data
theorem enc_bad (c p n k : Nat) (A : Option Addr) (m cc : Nat) (A2 : Option Addr) (n2 c2 : Nat) (w : World) (hc : CodeAt w c p n k A m cc) (hn : n2 ≠ k) :
    Calls Try.prog 65 #[.pointer (some ⟨c, 0, none⟩), .slice A2 n2 c2] w fun e w' => e = .returned (.tuple #[.slice none 0 0, I 1]) ∧ w = w' := by
  have HC := As.mk hc; clear hc
  have HN := As.mk hn; clear hn
  go_enter Try.func65, Try.ntmps65
  go_wp2_with fail
  refine (par_bad c p n k A m cc A2 n2 c2 _ HC.out HN.out).mono ?_
  rintro e w1 ⟨rfl, rfl⟩
  go_wp2_with fail
  go_ret2
  exact ⟨rfl, rfl⟩
set_option maxRecDepth 100000 in
set_option maxHeartbeats 1000000 in
theorem enc_any (c p n k : Nat) (A : Option Addr) (m cc : Nat) (A2 : Option Addr) (c2 : Nat) (data : List UInt8) (w : World) (hc : CodeAt w c p n k A m cc) (hl : Rd B w A2 k data) (hk2 : k ≤ c2) (hA2 : A2 = none → c2 = 0) (hg0 : trim (genOf (n - k)) ≠ []) (hr : (pdiv (pshift data (n - k)) (genOf (n - k))).2.length ≤ n - k) :
    Calls Try.prog 65 #[.pointer (some ⟨c, 0, none⟩), .slice A2 k c2] w (RetBE w (encodeOf (n - k) data) 0) := by
  have HC := As.mk hc; clear hc
  have HL := As.mk hl; clear hl
  have HG := As.mk hg0; clear hg0
  have HRL := As.mk hr; clear hr
  have HA2 := As.mk hA2; clear hA2
  go_enter Try.func65, Try.ntmps65
  go_wp2_with fail
  refine (par_any c p n k A m cc A2 c2 data w HC.out HL.out hk2 HG.out HRL.out).mono ?_
  rintro e w1 ⟨A3, m3, c3, rfl, hown3, hA3, hC3, hb3⟩
  have HO3 := As.mk hown3
  have HA3 := As.mk hA3
  have HC3 := As.mk hC3
  have HB3 := As.mk hb3
  have h3 := hown3.rd'.1
  have hkn := HC.out.kn
  have hpl : (parityOf (n - k) data).length = n - k := by
    unfold parityOf
    have := HRL.out
    rw [List.length_append, List.length_replicate]; omega
  have hk := HL.out.len
  have HLN : As (lens [data, parityOf (n - k) data] ≤ 140737488351232) := ⟨by
    simp only [lens, List.map_cons, List.map_nil, List.sum_cons, List.sum_nil]; omega⟩
  have HK := As.mk hk
  have H3 := As.mk h3
  clear hown3 hA3 hC3 hb3 hkn hpl h3 hk
  go_wp2_with (first | ((with_reducible show wpList _ _ _ ({ dst := some 19, op := _, type := _, pos := _, after := _, guard := _ } :: _) _ _); refine lit_event 39 2 #[.slice A2 k c2, .slice A3 m3 c3] rfl (by go_simp) ?_; intro g1 v1 hg1 hgl1 hb1) | (go_at_call 119; refine (concat_any (some ⟨g1, 0, none⟩) 2 2 [data, parityOf (n - k) data] _ (by omega) HLN.out ⟨[.slice A2 k c2, .slice A3 m3 c3], rdv_blk (n := 2) hg1.out (by simp) (by omega), rfl, fun i l hi => by match i, hi with | 0, hi => (cases hi; exact ⟨A2, c2, by rw [HK.out]; rfl, ⟨by rw [HK.out]; exact hk2, HA2.out⟩, by rw [HK.out]; exact (HL.out.below HB3.out).below hb1.out⟩) | 1, hi => (cases hi; exact ⟨A3, c3, by rw [← H3.out]; rfl, ⟨by rw [← H3.out]; exact HC3.out, HA3.out⟩, by rw [← H3.out]; exact HO3.out.rd'.2.below hb1.out⟩)⟩).mono ?_; rintro e w4 ⟨A6, m6, c6, rfl, hown6, hA6, hC6, hb6⟩; have HO6 := As.mk hown6; have HA6 := As.mk hA6; have HC6 := As.mk hC6; have HB6 := As.mk hb6; clear hown6 hA6 hC6 hb6))
  go_ret2
  exact ⟨A6, m6, c6, rfl, by rw [encodeOf]; have := HO6.out; simp only [List.flatten_cons, List.flatten_nil, List.append_nil] at this; exact this.less (Nat.le_trans HB3.out.size hb1.out.size), HA6.out, HC6.out, below_then (below_then HB3.out HB3.out.size hb1.out) (Nat.le_trans HB3.out.size hb1.out.size) HB6.out⟩
end Go.Proofs.Ytdcjionaedcfoaa.Rs
