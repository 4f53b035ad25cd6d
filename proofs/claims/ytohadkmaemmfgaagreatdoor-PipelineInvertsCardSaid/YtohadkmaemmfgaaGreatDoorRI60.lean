/- Ds Pd Pe. -/
import Derived.Test.YtohadkmaemmfgaaGreatDoorRI55
import Derived.Sort.Statements
set_option maxRecDepth 100000
set_option maxHeartbeats 4000000
namespace Go.Proofs.YtohadkmaemmfgaaGreatDoor.Dic
open Go.RowKit Go.Proofs
set_option linter.unusedVariables false
def letterI (x : Int) : Bool := if 97 ≤ x then (if x ≤ 122 then true else (if 65 ≤ x then decide (x ≤ 90) else false)) else (if 65 ≤ x then decide (x ≤ 90) else false)
def isL (b : UInt8) : Bool := letterI (b.toNat : Int)
def runL : List UInt8 → Nat
  | [] => 0
  | b :: r => if isL b then runL r + 1 else 0
theorem runL_le : ∀ bs : List UInt8, runL bs ≤ bs.length
  | [] => Nat.le_refl _
  | b :: r => by rw [runL]; have := runL_le r; split <;> simp <;> omega
theorem runL_letter : ∀ {bs : List UInt8} {k : Nat}, k < runL bs → letterI (gb bs k) = true
  | [], k, h => by simp [runL] at h
  | b :: r, k, h => by
    rw [runL] at h
    split at h
    · rename_i hb
      cases k with
      | zero => exact hb
      | succ k => exact runL_letter (bs := r) (k := k) (by omega)
    · omega
theorem runL_stop : ∀ {bs : List UInt8}, runL bs < bs.length → letterI (gb bs (runL bs)) = false
  | [], h => by simp at h
  | b :: r, h => by
    rw [runL] at h ⊢
    by_cases hb : isL b = true
    · rw [if_pos hb] at h ⊢
      have := runL_stop (bs := r) (by simp at h; omega)
      exact this
    · rw [if_neg hb]
      exact Bool.eq_false_iff.2 hb
theorem runL_eq {bs : List UInt8} {k : Nat} (h1 : ∀ i, i < k → letterI (gb bs i) = true) (h2 : k ≤ bs.length) (h3 : k < bs.length → letterI (gb bs k) = false) : runL bs = k := by
  rcases Nat.lt_trichotomy (runL bs) k with h | h | h
  · have := runL_stop (bs := bs) (by omega)
    rw [h1 _ h] at this
    cases this
  · exact h
  · have := runL_letter h
    rw [h3 (by have := runL_le bs; omega)] at this
    cases this
def plen (bs : List UInt8) : Nat := max (runL bs) 1
def stP (bs : List UInt8) : Nat → Nat
  | 0 => 0
  | k + 1 => stP bs k + plen (bs.drop (stP bs k))
def pcP (bs : List UInt8) (k : Nat) : List UInt8 := (bs.drop (stP bs k)).take (plen (bs.drop (stP bs k)))
def wdP (bs : List UInt8) (k : Nat) : Bool := decide (0 < runL (bs.drop (stP bs k)))
end Go.Proofs.YtohadkmaemmfgaaGreatDoor.Dic
namespace Go.Proofs.YtohadkmaemmfgaaGreatDoor.Bwt
set_option linter.unusedVariables false
def restI (rk : List Int) (n len : Nat) (i : Nat) : Int := if i + len ≤ n then gi rk (i + len) else 0
def key (bs : List UInt8) (i t : Nat) : Int := if i + t < bs.length then gb bs (i + t) + 1 else 0
def LT (bs : List UInt8) (l i j : Nat) : Prop := ∃ k, k < l ∧ (∀ t, t < k → key bs i t = key bs j t) ∧ key bs i k < key bs j k
def EQ (bs : List UInt8) (l i j : Nat) : Prop := ∀ t, t < l → key bs i t = key bs j t
theorem EQ.symm {bs : List UInt8} {l i j : Nat} (h : EQ bs l i j) : EQ bs l j i := fun t ht => (h t ht).symm
structure Stage (bs : List UInt8) (l : Nat) (rk : List Int) : Prop where
  size : rk.length = bs.length + 1
  lt : ∀ i j, i ≤ bs.length → j ≤ bs.length → (gi rk i < gi rk j ↔ LT bs l i j)
  last : gi rk bs.length = 0
theorem Stage.rest {bs : List UInt8} {l : Nat} {rk : List Int} (h : Stage bs l rk) (len i : Nat) : restI rk bs.length len i = gi rk (min (i + len) bs.length) := by
  unfold restI
  by_cases hi : i + len ≤ bs.length
  · rw [if_pos hi, Nat.min_eq_left hi]
  · rw [if_neg hi, Nat.min_eq_right (by omega), h.last]
def pn (ps : List Nat) (k : Nat) : Nat := ps.getD k 0
def cnt (ne : Nat → Nat → Bool) (ps : List Nat) : Nat → Int
  | 0 => 0
  | k + 1 => cnt ne ps k + if ne (pn ps k) (pn ps (k + 1)) then 1 else 0
section
variable {bs : List UInt8} {l : Nat} {rk : List Int} {ps : List Nat}
structure Sorted (bs : List UInt8) (l : Nat) (ps : List Nat) : Prop where
  size : ps.length = bs.length + 1
  nodup : ps.Nodup
  range : ∀ p ∈ ps, p < ps.length
  sorted : ∀ s t, s < t → t < ps.length → ¬ LT bs (l + l) (pn ps t) (pn ps s)
end
end Go.Proofs.YtohadkmaemmfgaaGreatDoor.Bwt
namespace Go.Proofs.YtohadkmaemmfgaaGreatDoor
open Go.RowKit Go.Proofs
set_option linter.unusedVariables false
set_option linter.unusedSimpArgs false
theorem map_ok {α β : Type} {x : Except Int α} {f : α → β} {r : β} (h : x.map f = .ok r) : ∃ y, x = .ok y ∧ r = f y := by
  cases x with
  | error e => cases h
  | ok y => exact ⟨y, rfl, by injection h with h; exact h.symm⟩
theorem expR_len {bs : List UInt8} : ∀ (d i m : Nat) (r : List UInt8), bs.length - i ≤ d → m ≤ 65536 → expR bs i m = .ok r → m + r.length ≤ 65536 := by
  intro d
  induction d with
  | zero =>
    intro i m r hd hm h
    rw [expR_end (by omega)] at h
    injection h with h
    subst h
    exact hm
  | succ d ih =>
    intro i m r hd hm h
    by_cases hi : i < bs.length
    · by_cases h1 : (bA bs i).toNat < 2
      · rw [expR_dig hi h1] at h
        split at h
        · cases h
        · obtain ⟨y, hy, rfl⟩ := map_ok h
          have := ih _ _ y (by omega) (by omega) hy
          rw [List.length_append, List.length_replicate]
          omega
      · by_cases h2 : (bA bs i).toNat < 255
        · rw [expR_byte hi h1 h2] at h
          split at h
          · cases h
          · obtain ⟨y, hy, rfl⟩ := map_ok h
            have := ih _ _ y (by omega) (by omega) hy
            rw [List.length_cons]
            omega
        · by_cases h3 : i + 1 = bs.length
          · rw [expR_torn h3 h2] at h; cases h
          · by_cases h4 : 1 < (bA bs (i + 1)).toNat
            · rw [expR_form (by omega) h2 h4] at h; cases h
            · rw [expR_esc (by omega) h2 h4] at h
              split at h
              · cases h
              · obtain ⟨y, hy, rfl⟩ := map_ok h
                have := ih _ _ y (by omega) (by omega) hy
                rw [List.length_cons]
                omega
    · rw [expR_end (by omega)] at h
      injection h with h
      subst h
      exact hm
theorem expandP_length (bs : List UInt8) : (expandP bs).1.length ≤ 65536 := by
  unfold expandP
  split
  · exact Nat.zero_le _
  · cases h : expR bs 0 0 with
    | error e => exact Nat.zero_le _
    | ok r =>
      have := expR_len _ 0 0 r (Nat.le_refl _) (by omega) h
      show r.length ≤ _
      omega
theorem copyN_length (d : Nat) : ∀ (k : Nat) (out : List UInt8), (copyN d k out).length = out.length + k
  | 0, out => rfl
  | k + 1, out => by rw [copyN, copyN_length d k]; simp; omega
theorem copyN_next (d : Nat) : ∀ (k : Nat) (out : List UInt8), copyN d (k + 1) out = copyN d k out ++ [bA (copyN d k out) ((copyN d k out).length - d)]
  | 0, out => rfl
  | k + 1, out => by
    rw [copyN, copyN_next d k (out ++ [bA out (out.length - d)])]
    rfl
theorem chkT_zero {t : Tok} {m : Nat} (h : chkT t m = 0) : rightT t = true ∧ t.dst ≤ m ∧ m + tsz t ≤ 65536 := by
  unfold chkT at h
  split at h
  · cases h
  · rename_i h1
    split at h
    · cases h
    · split at h
      · cases h
      · exact ⟨by simpa using h1, by omega, by omega⟩
theorem rightT_copy {t : Tok} (h : rightT t = true) (h0 : t.len ≠ 0) : t.len ≤ 255 ∧ 1 ≤ t.dst ∧ t.dst ≤ 4096 := by
  unfold rightT at h
  rw [if_neg h0] at h
  obtain ⟨-, -, h1, h2, h3⟩ := of_decide_eq_true h
  exact ⟨h1, h2, h3⟩
def oneT (t : Tok) (out : List UInt8) : List UInt8 := if t.len = 0 then out ++ [t.byt] else copyN t.dst t.len out
theorem oneT_length (t : Tok) (out : List UInt8) : (oneT t out).length = out.length + tsz t := by
  unfold oneT tsz
  split
  · simp; omega
  · rw [copyN_length]; omega
theorem expF_cons (t : Tok) (r : List Tok) (out : List UInt8) : expF (t :: r) out = expF r (oneT t out) := rfl
theorem expF_len : ∀ (l : List Tok) (out : List UInt8), chkF l out.length = 0 → out.length ≤ 65536 → (expF l out).length ≤ 65536
  | [], out, _, h => h
  | t :: r, out, hc, h => by
    rw [chkF] at hc
    split at hc
    · rename_i h0
      obtain ⟨-, -, h3⟩ := chkT_zero h0
      rw [expF_cons]
      refine expF_len r _ ?_ ?_
      · rw [oneT_length]; exact hc
      · rw [oneT_length]; exact h3
    · rename_i h0; exact absurd hc h0
theorem expandT_length (l : List Tok) : (expandT l).1.length ≤ 65536 := by
  unfold expandT
  split
  · rename_i h
    unfold chkL at h
    split at h
    · cases h
    · exact expF_len l [] h (Nat.zero_le _)
  · exact Nat.zero_le _
theorem lzI_length (bs : List UInt8) : (lzI bs).1.length ≤ 65536 := by
  unfold lzI
  cases decT bs with
  | error e => exact Nat.zero_le _
  | ok l => exact expandT_length l
end Go.Proofs.YtohadkmaemmfgaaGreatDoor
