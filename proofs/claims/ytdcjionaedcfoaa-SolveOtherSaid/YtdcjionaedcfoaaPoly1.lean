/- Walks: slices.Clone and IndexFunc at []byte, poly.Trim, Degree, Eval. -/
import Derived.Test.YtdcjionaedcfoaaGf
import Derived.Test.YtdcjionaedcfoaaO
set_option linter.unusedVariables false
set_option linter.unusedSimpArgs false
namespace Go.Proofs.Ytdcjionaedcfoaa.Poly
open Go.RowKit Go.Proofs.Ytdcjionaedcfoaa.L Go.Proofs.Ytdcjionaedcfoaa.Gf

theorem info_u8 : (Try.prog.info? 5).map (fun i => (i.zero, i.size, i.bytes)) = some (some (.int .u8 0), 1, 1) := by kernel_rfl
theorem oneB (l : List UInt8) : ∀ u ∈ l.map B, u.oneCell' = true := by
  intro u hu
  obtain ⟨x, _, rfl⟩ := List.mem_map.1 hu
  rfl

theorem nil_eq_some (ad : Addr) (n c : Nat) (w : World) : (binOp .eql 39 (.slice (some ad) n c) (.slice none 0 0)).run Try.prog w = .ok (.bool false) w := by kernel_rfl
theorem nil_eq_none (n c : Nat) (w : World) : (binOp .eql 39 (.slice none n c) (.slice none 0 0)).run Try.prog w = .ok (.bool true) w := by kernel_rfl
/-- What a call hands back: a new slice that holds xs. -/
def RetB (w : World) (xs : List UInt8) (e : Ending) (w' : World) : Prop :=
  ∃ A n c, e = .returned (.slice A n c) ∧ Own B 5 w' w.heap.size (.slice A n c) xs ∧ (A = none → c = 0) ∧ n ≤ c ∧ Below w.heap.size w w'

set_option maxRecDepth 100000 in
theorem clone_any (A : Option Addr) (n c : Nat) (xs : List UInt8) (w : World) (hn : n ≤ 140737488351232) (hl : Rd B w A n xs) :
    Calls Try.prog 83 #[.slice A n c] w (RetB w xs) := by
  cases A with
  | none =>
    have h0 : n = 0 := by
      rcases Nat.eq_zero_or_pos n with h | h
      · exact h
      · obtain ⟨ad, e, _⟩ := hl.2.2 h; cases e
    subst h0
    clear hn
    obtain rfl : xs = [] := List.eq_nil_of_length_eq_zero hl.len
    have hq := nil_eq_none
    go_enter Try.func83, Try.ntmps83
    go_wp2
    go_ret
    exact ⟨none, 0, 0, rfl, Own.nil _ _ _ _, fun _ => rfl, Nat.le_refl _, Below.refl _ _⟩
  | some ad =>
    have HL := As.mk hl; clear hl
    have hq := nil_eq_some
    go_enter Try.func83, Try.ntmps83
    go_wp2_with (at_builtin; go_loud (refine append_event w w.heap.size 39 5 (.int .u8 0) 1 1 _ _ rfl rfl Try.underlying39 info_u8 rfl (by decide) _ 0 [] (some ad) n c (xs.map B) rfl rfl (by intro h; cases h) (World.ownsRow_lit _ _ 0 (Nat.le_refl _) (by simp [maxLen]) rfl) (RdV.below HL.out (alloc_below _ _)) (oneB xs) (alloc_below _ _) (by simp) (by omega) (by decide) n (Nat.zero_add n) (xs.map B) (List.nil_append _) ?_); intro A' c' w1 hown hA hC hb hg hat)
    go_ret
    have e := HL.out.len
    subst e
    exact ⟨A', _, c', rfl, hown.out, hA.out, hC.out, hb.out⟩

/-! ### IndexFunc -/
def idxOf (p : UInt8 → Bool) : List UInt8 → Option Nat
  | [] => none
  | x :: l => if p x then some 0 else (idxOf p l).map (· + 1)
def idxI (p : UInt8 → Bool) (l : List UInt8) : Int := match idxOf p l with | some i => (i : Int) | none => -1
theorem idxOf_at (p : UInt8 → Bool) (l : List UInt8) (k : Nat) (x : UInt8) (hx : l[k]? = some x) (hb : ∀ (j : Nat) (y : UInt8), j < k → l[j]? = some y → p y = false) (hp : p x = true) : idxOf p l = some k := by
  induction l generalizing k with
  | nil => simp at hx
  | cons a l ih =>
    cases k with
    | zero => simp at hx; subst hx; simp [idxOf, hp]
    | succ k =>
      have ha := hb 0 a (by omega) rfl
      rw [idxOf, if_neg (by simp [ha]), ih k (by simpa using hx) (fun j y hj hy => hb (j + 1) y (by omega) (by simpa using hy))]
      rfl
theorem idxOf_none (p : UInt8 → Bool) (l : List UInt8) (hb : ∀ (j : Nat) (y : UInt8), l[j]? = some y → p y = false) : idxOf p l = none := by
  induction l with
  | nil => rfl
  | cons a l ih => rw [idxOf, if_neg (by simp [hb 0 a rfl]), ih (fun j y hy => hb (j + 1) y (by simpa using hy))]; rfl
set_option maxRecDepth 100000 in
theorem indexFunc_any (g : FuncId) (p : UInt8 → Bool) (he : ∀ args w, (callFunc g args).run Try.prog w = .ok (.enter g args) w) (hg : ∀ x w, Calls Try.prog g #[B x] w fun e w' => e = .returned (.bool (p x)) ∧ w = w') (A : Option Addr) (n c : Nat) (xs : List UInt8) (w : World) (hl : Rd B w A n xs) :
    Calls Try.prog 91 #[.slice A n c, .func (.func g) #[] #[]] w fun e w' => e = .returned (I (idxI p xs)) ∧ w = w' := by
  have hle := hl.le
  have HL := As.mk hl; clear hl
  have HG := As.mk hg; clear hg
  go_enter Try.func91, Try.ntmps91
  go_wp2_with fail
  go_loop [8] (fun i => ∃ k : Nat, k ≤ n ∧ i = .int .i64 k ∧ ∀ (j : Nat) (y : UInt8), j < k → xs[j]? = some y → p y = false) (fun i => n - (intOf i).toNat)
  case atStart => exact ⟨0, by omega, rfl, fun j y hj => by omega⟩
  case round =>
    obtain ⟨k, hk, rfl, hb⟩ := hrel
    by_cases hlt : k < n
    · obtain ⟨ad, rfl, x, hx, hc⟩ := HL.out.at_ k hlt
      cases hp : p x with
      | true =>
        have H := As.mk (idxOf_at p xs k x hx hb hp)
        have Hp := As.mk hp
        clear hx hb hp
        go_wp2_with ((with_reducible refine (HG.out x _).mono ?_); rw [Hp.out]; rintro e w' ⟨rfl, rfl⟩)
        go_ret
        exact ⟨by rw [idxI, H.out]; rfl, rfl⟩
      | false =>
        have H : As (∀ (j : Nat) (y : UInt8), j < k + 1 → xs[j]? = some y → p y = false) := ⟨fun j y hj hy => by
          by_cases e : j = k
          · subst e; rw [hx] at hy; cases hy; exact hp
          · exact hb j y (by omega) hy⟩
        have Hp := As.mk hp
        clear hx hb hp
        go_wp2_with ((with_reducible refine (HG.out x _).mono ?_); rw [Hp.out]; rintro e w' ⟨rfl, rfl⟩)
        go_round
        case rel => exact ⟨k + 1, by omega, by go_num, H.out⟩
        case measure => simp [intOf]; omega
    · have e : k = xs.length := by have := HL.out.len; omega
      have H := As.mk (idxOf_none p xs fun j y hy => hb j y (by rw [e]; exact (List.getElem?_eq_some_iff.1 hy).1) hy)
      clear hb
      go_wp2
      go_ret
      exact ⟨by rw [idxI, H.out]; rfl, rfl⟩


/-! ### Trim, Degree -/
theorem trim1_any (x : UInt8) (w : World) : Calls Try.prog 92 #[B x] w fun e w' => e = .returned (.bool (x != 0)) ∧ w = w' := by
  have h : ((x.toNat : Int) != 0) = (x != 0) := by
    by_cases hx : x = 0
    · subst hx; rfl
    · have := u8_ne0 hx
      rw [bne, this]; simp [hx]
  go_enter Try.func92, Try.ntmps92
  go_wp2
  go_ret
  exact ⟨rfl, rfl⟩
theorem trim1_enters (args : Array Value) (w : World) : (callFunc 92 args).run Try.prog w = .ok (.enter 92 args) w := by kernel_rfl
def nz (x : UInt8) : Bool := x != 0
def trim : List UInt8 → List UInt8
  | [] => []
  | x :: l => if x = 0 then trim l else x :: l
theorem trim_none {l : List UInt8} (h : idxOf nz l = none) : trim l = [] := by
  induction l with
  | nil => rfl
  | cons a l ih =>
    rw [idxOf] at h
    split at h
    · cases h
    · rename_i hp
      have ha : a = 0 := by simpa [nz] using hp
      rw [trim, if_pos ha, ih (by simpa using h)]
theorem trim_some {l : List UInt8} {i : Nat} (h : idxOf nz l = some i) : trim l = l.drop i ∧ i < l.length := by
  induction l generalizing i with
  | nil => cases h
  | cons a l ih =>
    rw [idxOf] at h
    split at h
    · rename_i hp
      have ha : a ≠ 0 := by simpa [nz] using hp
      cases h
      exact ⟨by rw [trim, if_neg ha]; rfl, by simp⟩
    · rename_i hp
      have ha : a = 0 := by simpa [nz] using hp
      obtain ⟨j, hj, rfl⟩ := Option.map_eq_some_iff.1 h
      obtain ⟨h1, h2⟩ := ih hj
      exact ⟨by rw [trim, if_pos ha, h1]; rfl, by simp; omega⟩
set_option maxRecDepth 100000 in
theorem trim_any (A : Option Addr) (n c : Nat) (xs : List UInt8) (w : World) (hn : n ≤ 140737488351232) (hnc : n ≤ c) (hl : Rd B w A n xs) :
    Calls Try.prog 30 #[.slice A n c] w (RetB w (trim xs)) := by
  have HL := As.mk hl; clear hl
  have HI : As (∀ c w, Rd B w A n xs → Calls Try.prog 91 #[.slice A n c, .func (.func 92) #[] #[]] w fun e w' => e = .returned (I (idxI nz xs)) ∧ w = w') :=
    ⟨fun c w h => indexFunc_any _ nz trim1_enters trim1_any A n c xs w h⟩
  cases hi : idxOf nz xs with
  | none =>
    have H : As (idxI nz xs = -1) := ⟨by rw [idxI, hi]⟩
    have HT := As.mk (trim_none hi)
    clear hi
    go_enter Try.func30, Try.ntmps30
    go_wp2_with (first | (go_at_call 91; refine (HI.out _ _ HL.out).mono ?_; rw [H.out]; rintro e w' ⟨rfl, rfl⟩))
    go_ret
    rw [HT.out]
    exact ⟨none, 0, 0, rfl, Own.nil _ _ _ _, fun _ => rfl, Nat.le_refl _, Below.refl _ _⟩
  | some i =>
    have H : As (idxI nz xs = (i : Int)) := ⟨by rw [idxI, hi]⟩
    have HT := As.mk (trim_some hi).1
    have hlt := (trim_some hi).2
    have hle := HL.out.len
    have HR := As.mk (HL.out.drop i (by omega))
    have hne : ¬ c = i := by omega
    clear hi
    go_enter Try.func30, Try.ntmps30
    go_wp2_with (first | (go_at_call 91; refine (HI.out _ _ HL.out).mono ?_; rw [H.out]; rintro e w' ⟨rfl, rfl⟩) | (go_at_call 83; refine (clone_any _ _ _ _ _ (by omega) HR.out).mono ?_; rintro e w' ⟨A', n', c', rfl, hown, hA, hC, hb⟩; have hown := As.mk hown; have hA := As.mk hA; have hC := As.mk hC; have hb := As.mk hb))
    go_ret
    rw [HT.out]
    exact ⟨A', n', c', rfl, hown.out, hA.out, hC.out, hb.out⟩
end Go.Proofs.Ytdcjionaedcfoaa.Poly
