/- Rows of strings; SameWords, place, Gain, IsWord, Few of the reference. -/
import Derived.Test.YtdebhdopginllaaDa
import Derived.Lib.ConvBytes
namespace Go.Proofs.Ytdebhdopginllaa
open Go.RowKit Go.Proofs
set_option linter.unusedVariables false

def gs (ss : List (List UInt8)) (k : Nat) : List UInt8 := ss.getD k []
def Strs (w : World) (A : Option Addr) (n c : Nat) (ss : List (List UInt8)) : Prop := ss.length = n ∧ n ≤ c ∧ Cells w A n (fun i => .string (strB (gs ss i)))
section
variable {w w' : World} {A : Option Addr} {n c k : Nat} {ss : List (List UInt8)}
theorem Strs.get (h : Strs w A n c ss) (hk : k < n) : ∃ b off, A = some ⟨b, off, none⟩ ∧ b < w.heap.size ∧ ∀ i, i < n → w.cell? ⟨b, off + i, none⟩ = some (.string (strB (gs ss i))) := h.2.2 (by omega)
theorem Strs.below (h : Strs w A n c ss) (hb : Below w.heap.size w w') : Strs w' A n c ss := ⟨h.1, h.2.1, h.2.2.below hb⟩
theorem Strs.drewN (h : Strs w A n c ss) (q : Nat) : Strs (w.drewN q) A n c ss := h
theorem gs_get (h : k < ss.length) : gs ss k = ss[k] := by simp [gs, List.getD, h]
theorem gs_ext {xs ys : List (List UInt8)} (hl : xs.length = ys.length) (h : ∀ i, i < xs.length → gs xs i = gs ys i) : xs = ys := by
  apply List.ext_getElem hl
  intro i h1 h2
  have := h i h1
  rwa [gs_get h1, gs_get h2] at this
end
theorem strB_size (x : List UInt8) : (strB x).size = x.length := by simp [strB, ByteArray.size]

set_option maxHeartbeats 400000 in
theorem sameWords_any (A B : Option Addr) (c d n m : Nat) (xs ys : List (List UInt8)) (w : World) (hx : Strs w A n c xs) (hy : Strs w B m d ys) (hn : n ≤ 1000000000) (hm : m ≤ 1000000000) :
    Calls Try.prog 11 #[.slice A n c, .slice B m d] w fun e w' => e = .returned (.bool (decide (xs = ys))) ∧ ∃ q, w' = w.drewN q := by
  obtain ⟨hxl, -, hxc⟩ := hx
  obtain ⟨hyl, -, hyc⟩ := hy
  by_cases hl : n = m
  · subst hl
    have hne : ((n : Int) != (n : Int)) = false := by simp
    have Hx := Lib.hid hxl; clear hxl
    have Hy := Lib.hid hyl; clear hyl
    go_enter Try.func11, Try.ntmps11
    go_wp2
    go_loopw [5] (fun i wr => ∃ k : Nat, k ≤ n ∧ i = .int .i64 k ∧ Hid (∀ j, j < k → gs xs j = gs ys j) ∧ ∃ q, wr = w.drewN q) (fun i _ => n - (intOf i).toNat)
    case atStart => exact ⟨0, Nat.zero_le _, rfl, fun j hj => absurd hj (by omega), 0, rfl⟩
    case round =>
      obtain ⟨k, hk, rfl, HK, q, rfl⟩ := hrel
      by_cases hlt : k < n
      · obtain ⟨b, off, rfl, hb, hc⟩ := hxc.get hlt
        obtain ⟨b', off', rfl, hb', hc'⟩ := hyc.get hlt
        have h1 := hc k hlt
        have h2 := hc' k hlt
        clear hc hc' hxc hyc
        by_cases he : gs xs k = gs ys k
        · have hd : ((strB (gs xs k)).toList == (strB (gs ys k)).toList) = true := by rw [strB_beq]; exact decide_eq_true he
          have He := Lib.hid he
          clear he
          go_wp2
          go_quiet (fail)
          go_wp2
          go_roundw
          case rel => exact ⟨k + 1, by omega, by go_num, fun j hj => by
            rcases Nat.lt_succ_iff_lt_or_eq.1 hj with h | h
            · exact HK.out j h
            · subst h; exact He.out, _, rfl⟩
          case measure => simp [intOf]; omega
        · have hd : ((strB (gs xs k)).toList == (strB (gs ys k)).toList) = false := by rw [strB_beq]; exact decide_eq_false he
          have hfin : Hid (decide (xs = ys) = false) := decide_eq_false (fun e => he (by rw [e]))
          clear he
          go_wp2
          go_quiet (fail)
          go_wp2
          go_ret
          exact ⟨ret_bool hfin.out.symm, Drawn.step ⟨q, rfl⟩ _⟩
      · have hfin : Hid (decide (xs = ys) = true) := decide_eq_true (gs_ext (Hx.out.trans Hy.out.symm) (fun i hi => HK.out i (by have := Hx.out; omega)))
        go_wp2
        go_ret
        exact ⟨ret_bool hfin.out.symm, _, rfl⟩
  · have hne : ((n : Int) != (m : Int)) = true := by simp; omega
    have hfin : Hid (decide (xs = ys) = false) := decide_eq_false (fun e => hl (by rw [← hxl, ← hyl, e]))
    go_enter Try.func11, Try.ntmps11
    go_wp2
    go_ret
    exact ⟨ret_bool hfin.out.symm, 0, rfl⟩

/-- the place of a string in a list, or -1. -/
def placeL (ss : List (List UInt8)) (s : List UInt8) : Int := if ss.idxOf s < ss.length then (ss.idxOf s : Int) else -1
theorem idxOf_at {ss : List (List UInt8)} {s : List UInt8} {k : Nat} (hk : k < ss.length) (h1 : ∀ j, j < k → gs ss j ≠ s) (h2 : gs ss k = s) : ss.idxOf s = k := by
  induction ss generalizing k with
  | nil => simp at hk
  | cons x r ih =>
    cases k with
    | zero => have : x = s := h2; subst this; simp
    | succ k =>
      have hx : x ≠ s := h1 0 (by omega)
      rw [List.idxOf_cons, ih (k := k) (by simpa using hk) (fun j hj => h1 (j + 1) (by omega)) h2, beq_eq_false_iff_ne.2 hx]
      rfl
theorem placeL_at {ss : List (List UInt8)} {s : List UInt8} {k : Nat} (hk : k < ss.length) (h1 : ∀ j, j < k → gs ss j ≠ s) (h2 : gs ss k = s) : placeL ss s = k := by
  unfold placeL; rw [idxOf_at hk h1 h2, if_pos hk]
theorem placeL_none {ss : List (List UInt8)} {s : List UInt8} (h : ∀ j, j < ss.length → gs ss j ≠ s) : placeL ss s = -1 := by
  unfold placeL
  rw [if_neg]
  rw [List.idxOf_lt_length_iff]
  intro hm
  obtain ⟨i, hi, e⟩ := List.mem_iff_getElem.1 hm
  exact h i hi (by rw [gs_get hi]; exact e)

set_option maxHeartbeats 400000 in
theorem place_any (A : Option Addr) (c n : Nat) (ss : List (List UInt8)) (s : List UInt8) (w : World) (hx : Strs w A n c ss) (hn : n ≤ 1000000000) :
    Calls Try.prog 41 #[.slice A n c, .string (strB s)] w fun e w' => e = .returned (.int .i64 (placeL ss s)) ∧ w' = w := by
  have Hl := Lib.hid hx.1
  go_enter Try.func41, Try.ntmps41
  go_wp2
  go_loop [5] (fun i => ∃ k : Nat, k ≤ n ∧ i = .int .i64 k ∧ Hid (∀ j, j < k → gs ss j ≠ s)) (fun i => n - (intOf i).toNat)
  case atStart => exact ⟨0, Nat.zero_le _, rfl, fun j hj => absurd hj (by omega)⟩
  case round =>
    obtain ⟨k, hk, rfl, HK⟩ := hrel
    by_cases hlt : k < n
    · obtain ⟨b, off, rfl, hb, hc⟩ := hx.get hlt
      have h1 := hc k hlt
      clear hc
      by_cases he : gs ss k = s
      · have hd : ((strB (gs ss k)).toList == (strB s).toList) = true := by rw [strB_beq]; exact decide_eq_true he
        have hfin : Hid (placeL ss s = k) := placeL_at (by rw [Hl.out]; exact hlt) HK.out he
        clear he
        go_wp2
        go_ret
        exact ⟨ret_int hfin.out.symm, rfl⟩
      · have hd : ((strB (gs ss k)).toList == (strB s).toList) = false := by rw [strB_beq]; exact decide_eq_false he
        have He := Lib.hid he; clear he
        go_wp2
        go_round
        case rel => exact ⟨k + 1, by omega, by go_num, fun j hj => by
          rcases Nat.lt_succ_iff_lt_or_eq.1 hj with h | h
          · exact HK.out j h
          · subst h; exact He.out⟩
        case measure => simp [intOf]; omega
    · have hfin : Hid (placeL ss s = -1) := placeL_none (fun j hj => HK.out j (by have := Hl.out; omega))
      go_wp2
      go_ret
      exact ⟨ret_int hfin.out.symm, rfl⟩

/-- the gain of a word that comes k times. -/
def gainL (k len : Nat) : Int := (k : Int) * ((len : Int) - 1) - ((len : Int) + 1)
def cntS (ss : List (List UInt8)) (s : List UInt8) : Nat → Nat
  | 0 => 0
  | k + 1 => cntS ss s k + if gs ss k = s then 1 else 0
theorem cntS_le (ss : List (List UInt8)) (s : List UInt8) : ∀ k, cntS ss s k ≤ k
  | 0 => Nat.le_refl _
  | k + 1 => by rw [cntS]; have := cntS_le ss s k; split <;> omega

set_option maxHeartbeats 400000 in
theorem gain_any (A : Option Addr) (c n : Nat) (ss : List (List UInt8)) (s : List UInt8) (w : World) (hx : Strs w A n c ss) (hn : n ≤ 1000000000) (hs : s.length ≤ 1000000000) :
    Calls Try.prog 42 #[.slice A n c, .string (strB s)] w fun e w' => e = .returned (.int .i64 (gainL (cntS ss s n) s.length)) ∧ w' = w := by
  have Hz := Lib.hid (strB_size s)
  go_enter Try.func42, Try.ntmps42
  go_wp2
  go_loop [5, 6] (fun a i => ∃ k : Nat, k ≤ n ∧ i = .int .i64 k ∧ a = .int .i64 ((cntS ss s k : Nat) : Int)) (fun _ i => n - (intOf i).toNat)
  case atStart => exact ⟨0, Nat.zero_le _, rfl, rfl⟩
  case round =>
    obtain ⟨k, hk, rfl, rfl⟩ := hrel
    have hcl := cntS_le ss s k
    by_cases hlt : k < n
    · obtain ⟨b, off, rfl, hb, hc⟩ := hx.get hlt
      have h1 := hc k hlt
      clear hc
      by_cases he : gs ss k = s
      · have hd : ((strB (gs ss k)).toList == (strB s).toList) = true := by rw [strB_beq]; exact decide_eq_true he
        have hst : Hid (cntS ss s (k + 1) = cntS ss s k + 1) := by show _ = _; rw [cntS, if_pos he]
        clear he
        go_wp2
        go_round
        case rel => exact ⟨k + 1, by omega, by go_num, by rw [hst.out]; go_num⟩
        case measure => simp [intOf]; omega
      · have hd : ((strB (gs ss k)).toList == (strB s).toList) = false := by rw [strB_beq]; exact decide_eq_false he
        have hst : Hid (cntS ss s (k + 1) = cntS ss s k) := by show _ = _; rw [cntS, if_neg he]; rfl
        clear he
        go_wp2
        go_round
        case rel => exact ⟨k + 1, by omega, by go_num, by rw [hst.out]⟩
        case measure => simp [intOf]; omega
    · obtain rfl : k = n := by omega
      have hz := Hz.out
      have hmul : ((cntS ss s k : Nat) : Int) * ((s.length : Int) - 1) ≤ 1000000000 * 1000000000 := by
        rcases Nat.eq_zero_or_pos s.length with h | h
        · rw [h]; omega
        · exact Int.mul_le_mul (by omega) (by omega) (by omega) (by omega)
      have hmul0 : -1000000000 ≤ ((cntS ss s k : Nat) : Int) * ((s.length : Int) - 1) := by
        rcases Nat.eq_zero_or_pos s.length with h | h
        · rw [h]; simp; omega
        · have : 0 ≤ ((cntS ss s k : Nat) : Int) * ((s.length : Int) - 1) := Int.mul_nonneg (by omega) (by omega)
          omega
      go_wp2
      go_ret
      exact ⟨rfl, rfl⟩
end Go.Proofs.Ytdebhdopginllaa
