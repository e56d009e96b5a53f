/- The walks of layer 4 (gf): New, Add, Exp, Log, Mul, Inv, Div. -/
import Derived.Test.YtdcjionaedcfoaaProg
import Derived.Test.YtdcjionaedcfoaaLbits
import Derived.Test.YtdcjionaedcfoaaFp
import Derived.KernelRfl
set_option linter.unusedVariables false
set_option linter.unusedSimpArgs false
namespace Go.Proofs.Ytdcjionaedcfoaa.Gf
open Go.RowKit Go.Proofs.Ytdcjionaedcfoaa.L

structure FieldAt (w : World) (p : Nat) : Prop where
  exp : ∀ i, i < 255 → w.cell? ⟨p, i, none⟩ = some (B (powT i))
  log : ∀ b : UInt8, w.cell? ⟨p, 255 + b.toNat, none⟩ = some (I (glog b))
theorem FieldAt.below {w w' : World} {p : Nat} (h : FieldAt w p) (hb : Below w.heap.size w w') : FieldAt w' p :=
  ⟨fun i hi => (hb.cell (World.block_lt_of_cell? w _ (h.exp i hi))).trans (h.exp i hi), fun b => (hb.cell (World.block_lt_of_cell? w _ (h.log b))).trans (h.log b)⟩

theorem exp_nil (n : Int) (w : World) : Calls Try.prog 110 #[.pointer none, I n] w fun e w' => e = .returned (.int .u8 0) ∧ w = w' := by
  go_enter Try.func110, Try.ntmps110
  go_wp2
  go_ret
  exact ⟨rfl, rfl⟩

theorem exp_any (p : Nat) (n : Int) (w : World) (hf : FieldAt w p) : Calls Try.prog 110 #[.pointer (some ⟨p, 0, none⟩), I n] w fun e w' => e = .returned (B (gexp n)) ∧ w = w' := by
  have h1 : -255 < n.tmod 255 ∧ n.tmod 255 < 255 := by rw [Int.tmod_eq_emod]; split <;> omega
  have hc := hf.exp (n.tmod 255 % 255).toNat (by omega)
  have h2 : n.tmod 255 % 255 = n % 255 := by rw [Int.tmod_eq_emod]; split <;> omega
  have H2 : As (powT (n.tmod 255 % 255).toNat = gexp n) := ⟨by rw [h2]; rfl⟩
  clear hf h2
  generalize powT (n.tmod 255 % 255).toNat = x at *
  go_enter Try.func110, Try.ntmps110
  go_wp2
  go_ret
  exact ⟨by rw [H2.out]; rfl, rfl⟩

theorem log_zero (p : Option Addr) (w : World) : Calls Try.prog 139 #[.pointer p, B 0] w fun e w' => e = .returned (.tuple #[I 0, .bool false]) ∧ w = w' := by
  cases p
  all_goals
    go_enter Try.func139, Try.ntmps139
    go_wp2
    go_ret2
    exact ⟨rfl, rfl⟩

theorem log_any (p : Nat) (a : UInt8) (w : World) (hf : FieldAt w p) (h0 : a ≠ 0) : Calls Try.prog 139 #[.pointer (some ⟨p, 0, none⟩), B a] w fun e w' => e = .returned (.tuple #[I (glog a), .bool true]) ∧ w = w' := by
  have hc := hf.log a
  have hz : ((a.toNat : Int) == 0) = false := by
    have : a.toNat ≠ 0 := fun h => h0 (UInt8.toNat_inj.1 (by simpa using h))
    simp; omega
  have hl := a.toNat_lt
  clear hf h0
  generalize glog a = x at *
  go_enter Try.func139, Try.ntmps139
  go_wp2
  go_ret2
  exact ⟨rfl, rfl⟩

/-! ### New -/
structure Mk (w : World) (g i : Nat) : Prop where
  blk : ∃ cs, w.heap[g]? = some (.cells cs 156 (0, 0)) ∧ cs.size = 511 ∧ (∀ j, j < 255 → cs[j]? = some (B (tabE i j))) ∧ ∀ b, b < 256 → cs[255 + b]? = some (I (tabL i b))
theorem rep2 (n m j : Nat) (x y : Value) : (Array.replicate n x ++ Array.replicate m y)[j]? = if j < n then some x else if j < n + m then some y else none := by
  rw [Array.getElem?_append, Array.size_replicate, Array.getElem?_replicate, Array.getElem?_replicate]
  split
  · rfl
  · split <;> split <;> first | rfl | omega
def zs : Array Value := Array.replicate 255 (Value.int .u8 0) ++ Array.replicate 256 (Value.int .i64 0)
theorem zs_mk {w : World} {g : Nat} (h : w.heap[g]? = some (.cells zs 156 (0, 0))) : Mk w g 0 := by
  refine ⟨zs, h, by rw [zs, Array.size_append, Array.size_replicate, Array.size_replicate], fun j hj => ?_, fun b hb => ?_⟩
  · rw [zs, rep2, if_pos hj]; rfl
  · rw [zs, rep2, if_neg (by omega), if_pos (by omega)]; rfl
theorem Mk.step {w : World} {g i : Nat} (h : Mk w g i) (hi : i < 255) :
    Mk ((w.setCell ⟨g, i, none⟩ (B (powT i))).setCell ⟨g, 255 + (powT i).toNat, none⟩ (I i)) g (i + 1) := by
  obtain ⟨cs, h1, h2, h3, h4⟩ := h
  refine ⟨_, blk_set (blk_set h1 _ _) _ _, by simp [h2], fun j hj => ?_, fun b hb => ?_⟩
  · have := (powT i).toNat_lt
    rw [Array.getElem?_setIfInBounds_ne (by omega)]
    by_cases e : i = j
    · subst e; rw [Array.getElem?_setIfInBounds_self_of_lt (by omega)]; simp [tabE]
    · rw [Array.getElem?_setIfInBounds_ne e, h3 j hj]; simp only [tabE]; congr 2; split <;> split <;> first | rfl | omega
  · have := (powT i).toNat_lt
    by_cases e : b = (powT i).toNat
    · subst e; rw [Array.getElem?_setIfInBounds_self_of_lt (by simp [h2]; omega)]; simp [tabL]
    · rw [Array.getElem?_setIfInBounds_ne (by omega), Array.getElem?_setIfInBounds_ne (by omega), h4 b hb]; simp [tabL, e]
theorem Mk.cells {w : World} {g i : Nat} (h : Mk w g i) : (∀ j, j < 511 → ∃ v, w.cell? ⟨g, j, none⟩ = some v) ∧ ∀ j, w.frozen? ⟨g, j, none⟩ = false := by
  obtain ⟨cs, h1, h2, _⟩ := h
  exact ⟨fun j hj => ⟨cs[j]'(by omega), by rw [blk_cell h1, Array.getElem?_eq_getElem (by omega)]⟩, blk_free h1⟩
theorem Mk.field {w : World} {g : Nat} (h : Mk w g 255) : FieldAt w g := by
  obtain ⟨cs, h1, h2, h3, h4⟩ := h
  exact ⟨fun i hi => by rw [blk_cell h1, h3 i hi]; simp [tabE, hi], fun b => by rw [blk_cell h1, h4 _ b.toNat_lt]; rfl⟩

theorem new_alloc (w : World) (ev : Operand → Value) (o : Oper) (ho : o.op = .alloc 156) (hg : o.guard = none) : (execOp ev o).run Try.prog w = .ok (.value (.pointer (some ⟨w.heap.size, 0, none⟩))) (w.alloc (.cells zs 156 (0, 0))) := by
  obtain ⟨d, op, t, pos, af, gd⟩ := o
  dsimp only at ho
  subst ho
  kernel_rfl

theorem stepB_hi (a : UInt8) (h : (bits .and .u8 (a.toNat : Int) 128 != 0) = true) : Value.int .u8 (bits .xor .u8 ((a.toNat : Int) * 2 % 256) 29) = B (stepB a) := by
  have h1 : (128 : Int) = ((128 : UInt8).toNat : Int) := rfl
  rw [h1, b8_and] at h
  have h2 : a &&& 128 ≠ 0 := by intro h'; rw [h'] at h; exact absurd h (by decide)
  have h3 : (29 : Int) = ((29 : UInt8).toNat : Int) := rfl
  rw [stepB, if_neg h2, ← u8_shl1, h3, b8_xor]
theorem stepB_lo (a : UInt8) (h : (bits .and .u8 (a.toNat : Int) 128 != 0) = false) : Value.int .u8 ((a.toNat : Int) * 2 % 256) = B (stepB a) := by
  have h1 : (128 : Int) = ((128 : UInt8).toNat : Int) := rfl
  rw [h1, b8_and] at h
  have h2 : a &&& 128 = 0 := by
    apply Classical.byContradiction; intro h'
    have := u8_ne0 h'
    simp only [bne, this] at h; exact absurd h (by decide)
  rw [stepB, if_pos h2, ← u8_shl1]
set_option maxRecDepth 100000 in
set_option maxHeartbeats 1000000 in
theorem new_any (w : World) : Calls Try.prog 24 #[] w fun e w' => e = .returned (.pointer (some ⟨w.heap.size, 0, none⟩)) ∧ FieldAt w' w.heap.size ∧ Below w.heap.size w w' := by
  go_enter Try.func24, Try.ntmps24
  go_wp2_with (refine alloc_event 156 zs rfl (new_alloc _ _ _ rfl rfl) ?_; intro w1 hz hb; have HM := As.mk (zs_mk hz); clear hz; have HB := As.mk hb; clear hb)
  go_loopw [2, 5] (fun b k wr => ∃ i : Nat, i ≤ 255 ∧ k = .int .i64 i ∧ b = B (powT i) ∧ Mk wr w.heap.size i ∧ Below w.heap.size w wr) (fun _ k _ => 255 - (intOf k).toNat)
  case atStart => exact ⟨0, by omega, rfl, rfl, HM.out, HB.out⟩
  case round =>
    obtain ⟨i, hi, rfl, rfl, hm, hbl⟩ := hrel
    clear HM HB
    by_cases hlt : i < 255
    · have HM := As.mk hm
      obtain ⟨hc, hf⟩ := hm.cells
      obtain ⟨v1, hc1⟩ := hc i (by omega)
      obtain ⟨v2, hc2⟩ := hc (255 + (powT i).toNat) (by have := (powT i).toNat_lt; omega)
      clear hm hc
      have HB := As.mk hbl; clear hbl
      have hpl := (powT i).toNat_lt
      go_wp2
      all_goals
        go_roundw
        case rel => exact ⟨i + 1, by omega, by go_num, by first | exact stepB_hi _ ‹_› | exact stepB_lo _ ‹_›, HM.out.step hlt, (HB.out.setCell (Nat.le_refl _) _).setCell (Nat.le_refl _) _⟩
        case measure => simp [intOf]; omega
    · have e : i = 255 := by omega
      subst e
      have HM := As.mk hm; clear hm
      have HB := As.mk hbl; clear hbl
      go_wp2
      go_ret
      exact ⟨rfl, HM.out.field, HB.out⟩

/-! ### Add -/
theorem foldl_take {α β : Type} (f : β → α → β) (z : β) (l : List α) (k : Nat) (x : α) (h : l[k]? = some x) : (l.take (k + 1)).foldl f z = f ((l.take k).foldl f z) x := by
  rw [List.take_add_one, h]; simp
theorem add_any (p : Option Addr) (A : Option Addr) (n c : Nat) (l : List UInt8) (w : World) (hp : p ≠ none) (hl : Rd B w A n l) : Calls Try.prog 89 #[.pointer p, .slice A n c] w fun e w' => e = .returned (B (gadd l)) ∧ w = w' := by
  obtain ⟨p, rfl⟩ := Option.ne_none_iff_exists'.1 hp
  have hle := hl.le
  have HL := As.mk hl; clear hl
  go_enter Try.func89, Try.ntmps89
  go_wp2
  go_loop [5, 10] (fun s i => ∃ k : Nat, k ≤ n ∧ i = .int .i64 k ∧ s = B ((l.take k).foldl (· ^^^ ·) 0)) (fun _ i => n - (intOf i).toNat)
  case atStart => exact ⟨0, by omega, rfl, rfl⟩
  case round =>
    obtain ⟨k, hk, rfl, rfl⟩ := hrel
    by_cases hlt : k < n
    · obtain ⟨ad, rfl, x, hx, hc⟩ := HL.out.at_ k hlt
      have hs := As.mk (foldl_take (· ^^^ ·) 0 l k x hx)
      generalize (l.take k).foldl (· ^^^ ·) 0 = y at *
      clear hx HL
      go_wp2
      go_round
      case rel => exact ⟨k + 1, by omega, by go_num, by rw [hs.out, b8_xor]⟩
      case measure => simp [intOf]; omega
    · have e : k = l.length := by have := HL.out.len; omega
      subst e
      go_wp2
      go_ret
      exact ⟨by simp [gadd, List.take_length], rfl⟩

/-! ### Mul -/
theorem tabL_lt : ∀ i b, tabL i b ≤ i
  | 0, _ => by simp [tabL]
  | i + 1, b => by simp only [tabL]; split; · omega
                   · have := tabL_lt i b; omega
theorem glog_bd (a : UInt8) : 0 ≤ glog a ∧ glog a ≤ 255 := by
  have := tabL_lt 255 a.toNat
  unfold glog; omega
theorem gsum_bd (l : List UInt8) : 0 ≤ gsum l ∧ gsum l ≤ 255 * l.length := by
  induction l with
  | nil => simp [gsum]
  | cons a l ih =>
    have := glog_bd a
    have h : gsum (a :: l) = glog a + gsum l := by simp [gsum]
    rw [h, List.length_cons]; omega
theorem gsum_take (l : List UInt8) (k : Nat) (x : UInt8) (h : l[k]? = some x) : gsum (l.take (k + 1)) = gsum (l.take k) + glog x := by
  rw [gsum, List.take_add_one, h]; simp [gsum]
theorem mul_any (p : Nat) (A : Option Addr) (n c : Nat) (l : List UInt8) (w : World) (hf : FieldAt w p) (hn : n ≤ 140737488351232) (hl : Rd B w A n l) : Calls Try.prog 90 #[.pointer (some ⟨p, 0, none⟩), .slice A n c] w fun e w' => e = .returned (B (gmul l)) ∧ w = w' := by
  have HL := As.mk hl; clear hl
  have HF := As.mk hf; clear hf
  go_enter Try.func90, Try.ntmps90
  go_wp2_with (fail)
  go_loop [5, 12] (fun s i => ∃ k : Nat, k ≤ n ∧ i = .int .i64 k ∧ 0 ∉ l.take k ∧ s = I (gsum (l.take k))) (fun _ i => n - (intOf i).toNat)
  case atStart => exact ⟨0, by omega, rfl, by simp, rfl⟩
  case round =>
    obtain ⟨k, hk, rfl, h0, rfl⟩ := hrel
    by_cases hlt : k < n
    · obtain ⟨ad, rfl, x, hx, hc⟩ := HL.out.at_ k hlt
      by_cases hz : x = 0
      · have H0 : As (gmul l = 0) := ⟨by rw [gmul, if_pos (List.mem_of_getElem? (hz ▸ hx))]⟩
        subst hz
        clear HL hx h0
        generalize gsum (l.take k) = s at *
        go_wp2_with (go_at_call 139; refine (log_zero _ _).mono ?_; rintro e w' ⟨rfl, rfl⟩)
        go_ret
        exact ⟨by rw [H0.out]; rfl, rfl⟩
      · have hb := gsum_bd (l.take k)
        rw [List.length_take] at hb
        have hb' := glog_bd x
        have hs := As.mk (gsum_take l k x hx)
        have hz' := As.mk hz
        have h0' : As (0 ∉ l.take (k + 1)) := ⟨by rw [List.take_add_one, hx]; simp [h0]; exact fun h => hz h.symm⟩
        clear hx h0 HL hz
        generalize gsum (l.take k) = s at *
        have hb2 : 0 ≤ s ∧ s ≤ 255 * k := by omega
        clear hb
        generalize hg : glog x = g at *
        have Hg := As.mk hg
        clear hg
        go_wp2_with (go_at_call 139; refine (log_any _ _ _ HF.out hz'.out).mono ?_; rw [Hg.out]; rintro e w' ⟨rfl, rfl⟩)
        go_round
        case rel => exact ⟨k + 1, by omega, by go_num, h0'.out, by rw [hs.out]⟩
        case measure => simp [intOf]; omega
    · have e : k = l.length := by have := HL.out.len; omega
      subst e
      rw [List.take_length] at h0
      have H0 : As (gmul l = gexp (gsum l)) := ⟨by rw [gmul, if_neg h0]⟩
      rw [List.take_length]
      clear h0
      go_wp2_with (go_at_call 110; refine (exp_any _ _ _ HF.out).mono ?_; rintro e w' ⟨rfl, rfl⟩)
      go_ret
      exact ⟨by rw [H0.out]; rfl, rfl⟩

/-! ### Inv, Div -/
theorem inv_zero (p : Option Addr) (w : World) : Calls Try.prog 138 #[.pointer p, B 0] w fun e w' => e = .returned (.tuple #[B 0, .bool false]) ∧ w = w' := by
  go_enter Try.func138, Try.ntmps138
  go_wp2_with (go_at_call 139; refine (log_zero _ _).mono ?_; rintro e w' ⟨rfl, rfl⟩)
  go_ret2
  exact ⟨rfl, rfl⟩
theorem inv_any (p : Nat) (a : UInt8) (w : World) (hf : FieldAt w p) (h0 : a ≠ 0) : Calls Try.prog 138 #[.pointer (some ⟨p, 0, none⟩), B a] w fun e w' => e = .returned (.tuple #[B (ginv a), .bool true]) ∧ w = w' := by
  have HF := As.mk hf; clear hf
  have H0 := As.mk h0; clear h0
  have hb' := glog_bd a
  have H1 : As (ginv a = gexp (-glog a)) := ⟨rfl⟩
  generalize hg : glog a = g at *
  have Hg := As.mk hg
  clear hg
  go_enter Try.func138, Try.ntmps138
  go_wp2_with (first | (go_at_call 139; refine (log_any _ _ _ HF.out H0.out).mono ?_; rw [Hg.out]; rintro e w' ⟨rfl, rfl⟩) | (go_at_call 110; refine (exp_any _ _ _ HF.out).mono ?_; rintro e w' ⟨rfl, rfl⟩))
  go_ret2
  exact ⟨by rw [H1.out]; rfl, rfl⟩
theorem div_zero (p : Option Addr) (a : UInt8) (w : World) : Calls Try.prog 213 #[.pointer p, B a, B 0] w fun e w' => e = .returned (.tuple #[B 0, .bool false]) ∧ w = w' := by
  go_enter Try.func213, Try.ntmps213
  go_wp2_with (go_at_call 138; refine (inv_zero _ _).mono ?_; rintro e w' ⟨rfl, rfl⟩)
  go_ret2
  exact ⟨rfl, rfl⟩
theorem div_any (p : Nat) (a b : UInt8) (w : World) (hf : FieldAt w p) (h0 : b ≠ 0) : Calls Try.prog 213 #[.pointer (some ⟨p, 0, none⟩), B a, B b] w fun e w' => e = .returned (.tuple #[B (gdiv a b), .bool true]) ∧ Below w.heap.size w w' := by
  have HF := As.mk hf; clear hf
  have H0 := As.mk h0; clear h0
  go_enter Try.func213, Try.ntmps213
  go_wp2_with (first | (go_at_call 138; refine (inv_any _ _ _ HF.out H0.out).mono ?_; rintro e w' ⟨rfl, rfl⟩) | (go_at_call 90; refine (mul_any _ _ _ _ [a, ginv b] _ (HF.out.below (alloc_below _ _)) (by simp) (rd_lit B w 5 [a, ginv b] (by simp))).mono ?_; rintro e w' ⟨rfl, rfl⟩))
  go_ret2
  exact ⟨rfl, alloc_below _ _⟩
end Go.Proofs.Ytdcjionaedcfoaa.Gf
