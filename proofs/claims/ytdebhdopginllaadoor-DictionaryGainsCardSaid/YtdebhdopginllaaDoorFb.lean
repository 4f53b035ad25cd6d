/- What one rune at the head of a byte string means for the fields. No program in sight. -/
import Derived.Test.YtdebhdopginllaaDoorFa
import Derived.Shelf.Spec.DecodeRune
namespace Go.Proofs.YtdebhdopginllaaDoor
open Go.RowKit Go.Proofs
set_option linter.unusedVariables false

def baL (bs : List UInt8) : ByteArray := ⟨bs.toArray⟩
theorem baL_size (bs : List UInt8) : (baL bs).size = bs.length := by simp [baL, ByteArray.size]
theorem baL_get (bs : List UInt8) (i : Nat) : (((baL bs).get! i).toNat : Int) = gb bs i := by
  have : (baL bs).get! i = bs.getD i 0 := by simp [baL, ByteArray.get!, List.getD, Array.getElem!_eq_getD]; rfl
  rw [this]; rfl
/-- the rune at the head, and its length. -/
def runeL (bs : List UInt8) : Nat × Nat := Lib.decodeGo (baL bs)
theorem runeL_low {bs : List UInt8} (h0 : 0 < bs.length) (h : gb bs 0 < 128) : runeL bs = ((gb bs 0).toNat, 1) := by
  unfold runeL Lib.decodeGo Utf8.decode
  have e := baL_get bs 0
  rw [if_neg (by rw [baL_size]; omega)]
  simp only [Nat.zero_add]
  rw [if_pos (by omega)]
  rw [← e]; simp
theorem div64 {x : Nat} (h : x / 64 = 2) : 128 ≤ x := by omega
theorem runeL_high {bs : List UInt8} (h0 : 0 < bs.length) (h : 128 ≤ gb bs 0) : 128 ≤ (runeL bs).1 ∧ 1 ≤ (runeL bs).2 ∧ (runeL bs).2 ≤ bs.length ∧ (runeL bs).2 ≤ 4 ∧ (runeL bs).1 ≤ 1114111 ∧ ∀ j, j < (runeL bs).2 → 128 ≤ gb bs j := by
  have e0 := baL_get bs 0
  have e1 := baL_get bs 1
  have e2 := baL_get bs 2
  have e3 := baL_get bs 3
  have b0 := gb_hi bs 0
  have b1 := gb_hi bs 1
  have b2 := gb_hi bs 2
  have b3 := gb_hi bs 3
  have one : ∀ j, j < 1 → 128 ≤ gb bs j := fun j hj => by obtain rfl : j = 0 := by omega
                                                          exact h
  unfold runeL Lib.decodeGo Utf8.decode
  rw [if_neg (by rw [baL_size]; omega)]
  simp only [Nat.zero_add, baL_size, Utf8.runeError]
  rw [if_neg (by omega)]
  simp only [Bool.and_eq_true, decide_eq_true_eq, beq_iff_eq, ge_iff_le]
  split
  · rename_i hc
    split
    · exact ⟨by omega, by omega, by simp only; omega, by simp, by simp only; omega, fun j hj => by
        rcases (by simp only at hj; omega : j = 0 ∨ j = 1) with rfl | rfl <;> omega⟩
    · exact ⟨by simp, by simp, h0, by simp, by simp, one⟩
  · split
    · rename_i hc
      split
      · exact ⟨by simp only; omega, by simp, by simp only; omega, by simp, by simp only; omega, fun j hj => by
          rcases (by simp only at hj; omega : j = 0 ∨ j = 1 ∨ j = 2) with rfl | rfl | rfl <;> omega⟩
      · exact ⟨by simp, by simp, h0, by simp, by simp, one⟩
    · split
      · rename_i hc
        split
        · rename_i hv
          have hv2 := hv.2
          unfold Utf8.valid at hv2
          simp only [Bool.and_eq_true, Bool.or_eq_true, decide_eq_true_eq] at hv2
          exact ⟨by simp only; omega, by simp, by simp only; omega, by simp, by simp only; omega, fun j hj => by
            rcases (by simp only at hj; omega : j = 0 ∨ j = 1 ∨ j = 2 ∨ j = 3) with rfl | rfl | rfl | rfl <;> omega⟩
        · exact ⟨by simp, by simp, h0, by simp, by simp, one⟩
      · exact ⟨by simp, by simp, h0, by simp, by simp, one⟩
theorem letterI_high {x : Int} (h : 128 ≤ x) : letterI x = false := by
  unfold letterI
  rw [if_pos (by omega), if_neg (by omega), if_pos (by omega)]
  simp; omega
/-- one rune's step: the predicate's answer, the length, and the spans after it. -/
theorem rune_step {bs : List UInt8} {i : Nat} (hi : i < bs.length) :
    1 ≤ (runeL (bs.drop i)).2 ∧ i + (runeL (bs.drop i)).2 ≤ bs.length ∧ (runeL (bs.drop i)).2 ≤ 4 ∧ (runeL (bs.drop i)).1 ≤ 1114111 ∧
    stF bs (i + (runeL (bs.drop i)).2) = if letterI (runeL (bs.drop i)).1 = true then ((stF bs i).1, some ((stF bs i).2.getD i)) else (closeF bs i, none) := by
  have h0 : 0 < (bs.drop i).length := by rw [List.length_drop]; omega
  have hg : gb (bs.drop i) 0 = gb bs i := gb_drop bs i 0
  rcases Int.lt_or_le (gb bs i) 128 with h | h
  · have e := runeL_low h0 (by rw [hg]; exact h)
    have h1 := gb_lo bs i
    rw [e]
    refine ⟨Nat.le_refl _, by simp only; omega, by simp, by simp only; omega, ?_⟩
    have e2 : (((gb (bs.drop i) 0).toNat : Nat) : Int) = gb bs i := by rw [hg]; omega
    simp only [e2]
    by_cases hl : letterI (gb bs i) = true
    · rw [if_pos hl]; exact stF_letter hl
    · rw [if_neg hl]; exact stF_other (by simpa [isLt] using hl)
  · obtain ⟨r1, r2, r3, r4, r5, r6⟩ := runeL_high h0 (by rw [hg]; exact h)
    rw [List.length_drop] at r3
    refine ⟨r2, by omega, r4, r5, ?_⟩
    rw [if_neg (by rw [letterI_high (by omega)]; simp)]
    obtain ⟨z, hz⟩ : ∃ z, (runeL (bs.drop i)).2 = z + 1 := ⟨(runeL (bs.drop i)).2 - 1, by omega⟩
    rw [hz]
    refine stF_others z fun j hj => ?_
    have := r6 j (by omega)
    rw [gb_drop] at this
    exact letterI_high this
end Go.Proofs.YtdebhdopginllaaDoor
