/- Plain laws: the longest common beginnings of neighbours, from place to place. No program in sight. -/
import Derived.Test.YtkndcbnajkiceaaPo
namespace Go.Proofs.Ytkndcbnajkiceaa
set_option linter.unusedVariables false

theorem lcp_comm : ∀ x y : List UInt8, lcp x y = lcp y x
  | [], [] => rfl
  | [], _ :: _ => rfl
  | _ :: _, [] => rfl
  | a :: x, b :: y => by
    rw [lcp, lcp]
    by_cases h : a = b
    · rw [if_pos h, if_pos h.symm, lcp_comm x y]
    · rw [if_neg h, if_neg (fun e => h e.symm)]
theorem lcp_mid : ∀ {x y z : List UInt8}, less x y = true → less y z = true → lcp x z ≤ lcp y z
  | [], _, _, _, _ => by simp [lcp]
  | _ :: _, [], _, h, _ => by rw [less_nil] at h; cases h
  | _ :: _, _ :: _, [], _, h => by rw [less_nil] at h; cases h
  | a :: x, b :: y, c :: z, h1, h2 => by
    rw [less_cons] at h1 h2
    rw [lcp, lcp]
    by_cases hac : a = c
    · subst hac
      have hab : b = a := by
        rcases h1 with h1 | ⟨e, _⟩
        · rcases h2 with h2 | ⟨e, _⟩
          · omega
          · exact e
        · exact e.symm
      subst hab
      rw [if_pos rfl, if_pos rfl]
      have h1' : less x y = true := by
        rcases h1 with h1 | ⟨_, h⟩
        · omega
        · exact h
      have h2' : less y z = true := by
        rcases h2 with h2 | ⟨_, h⟩
        · omega
        · exact h
      have := lcp_mid h1' h2'
      omega
    · rw [if_neg hac]; omega
theorem lcp_get {bs : List UInt8} {p q n : Nat} (hp : p ≤ bs.length) (hq : q ≤ bs.length) (h : n ≤ lcp (bs.drop p) (bs.drop q)) : ∀ j, j < n → p + j < bs.length ∧ q + j < bs.length ∧ gb bs (p + j) = gb bs (q + j) := by
  intro j hj
  induction j generalizing p q n with
  | zero =>
    have hp' : p < bs.length := by
      rcases Nat.lt_or_ge p bs.length with h1 | h1
      · exact h1
      · rw [List.drop_of_length_le h1] at h; simp [lcp] at h; omega
    have hq' : q < bs.length := by
      rcases Nat.lt_or_ge q bs.length with h1 | h1
      · exact h1
      · rw [List.drop_of_length_le h1, lcp_comm] at h; simp [lcp] at h; omega
    refine ⟨by omega, by omega, ?_⟩
    rw [List.drop_eq_getElem_cons hp', List.drop_eq_getElem_cons hq', lcp] at h
    rw [Nat.add_zero, Nat.add_zero, gb_eq_iff hp' hq']
    rcases Classical.em (bs[p] = bs[q]) with e | e
    · exact e
    · rw [if_neg e] at h; omega
  | succ j ih =>
    have hp' : p < bs.length := by
      rcases Nat.lt_or_ge p bs.length with h1 | h1
      · exact h1
      · rw [List.drop_of_length_le h1] at h; simp [lcp] at h; omega
    have hq' : q < bs.length := by
      rcases Nat.lt_or_ge q bs.length with h1 | h1
      · exact h1
      · rw [List.drop_of_length_le h1, lcp_comm] at h; simp [lcp] at h; omega
    rw [List.drop_eq_getElem_cons hp', List.drop_eq_getElem_cons hq', lcp] at h
    rcases Classical.em (bs[p] = bs[q]) with e | e
    · rw [if_pos e] at h
      have := ih (p := p + 1) (q := q + 1) (n := n - 1) (by omega) (by omega) (by omega) (by omega)
      rw [show p + (j + 1) = p + 1 + j by omega, show q + (j + 1) = q + 1 + j by omega]
      exact this
    · rw [if_neg e] at h; omega

theorem before_rows {bs : List UInt8} {zs : List Int} (hs : zs.Pairwise (before bs)) {i j : Nat} (hi : i < zs.length) (hj : j < zs.length) (h : before bs (gi zs i) (gi zs j)) : i < j := by
  rcases Nat.lt_or_ge i j with h1 | h1
  · exact h1
  · rcases Nat.lt_or_ge j i with h2 | h2
    · have := List.pairwise_iff_getElem.1 hs j i hj hi h2
      rw [← gi_get hi, ← gi_get hj] at this
      exact absurd h (before_irr _ _ _ this)
    · obtain rfl : i = j := by omega
      exact absurd h (before_irr _ _ _ h)
theorem rows_before {bs : List UInt8} {zs : List Int} (hs : zs.Pairwise (before bs)) {i j : Nat} (hj : j < zs.length) (h : i < j) : before bs (gi zs i) (gi zs j) := by
  rw [gi_get hj, gi_get (by omega)]
  exact List.pairwise_iff_getElem.1 hs i j (by omega) hj h
/-- the row of a place. -/
def rowOf (zs : List Int) (p : Nat) : Nat := zs.idxOf (p : Int)
section
variable {bs : List UInt8} {zs : List Int} (hl : zs.length = bs.length + 1) (hp : permErr zs = 0) (hs : zs.Pairwise (before bs))
include hl hp
theorem row_lt {p : Nat} (h : p ≤ bs.length) : rowOf zs p < zs.length := List.idxOf_lt_length_of_mem (perm_all_mem hp (by omega))
theorem gi_row {p : Nat} (h : p ≤ bs.length) : gi zs (rowOf zs p) = p := by
  rw [gi_get (row_lt hl hp h)]
  exact List.getElem_idxOf _
theorem row_of_gi {i : Nat} (hi : i < zs.length) (p : Nat) (h : gi zs i = p) : rowOf zs p = i := by
  obtain ⟨_, hn⟩ := (permErr_zero_iff zs).1 hp
  have hp' : p ≤ bs.length := by
    have := ((permErr_zero_iff zs).1 hp).1 (gi zs i) (gi_mem hi)
    omega
  have h1 := gi_row hl hp hp'
  have hr := row_lt hl hp hp'
  rw [gi_get hr] at h1
  rw [gi_get hi] at h
  rcases Nat.lt_trichotomy (rowOf zs p) i with h2 | h2 | h2
  · exact absurd (h1.trans h.symm) (List.pairwise_iff_getElem.1 (List.nodup_iff_pairwise_ne.1 hn) _ _ hr hi h2)
  · exact h2
  · exact absurd (h.trans h1.symm) (List.pairwise_iff_getElem.1 (List.nodup_iff_pairwise_ne.1 hn) _ _ hi hr h2)
include hs
/-- one byte less in common at the place behind. -/
theorem kasai {p : Nat} (h : p + 1 ≤ bs.length) (hr : rowOf zs p ≠ 0) (hr' : rowOf zs (p + 1) ≠ 0) :
    lcp (sfx bs (gi zs (rowOf zs p - 1))) (sfx bs (p : Int)) ≤ lcp (sfx bs (gi zs (rowOf zs (p + 1) - 1))) (sfx bs ((p + 1 : Nat) : Int)) + 1 := by
  have hrl := row_lt hl hp (p := p) (by omega)
  have hq0 := ((permErr_zero_iff zs).1 hp).1 (gi zs (rowOf zs p - 1)) (gi_mem (by omega))
  obtain ⟨q, hq⟩ := Int.eq_ofNat_of_zero_le hq0.1
  have hb := rows_before hs (i := rowOf zs p - 1) hrl (by omega)
  rw [gi_row hl hp (by omega), hq] at hb
  rw [hq]
  unfold before at hb
  simp only [sfx, Int.toNat_natCast] at hb ⊢
  by_cases hql : q < bs.length
  · have hpl : p < bs.length := by omega
    rw [List.drop_eq_getElem_cons hql, List.drop_eq_getElem_cons hpl] at hb ⊢
    rw [lcp]
    by_cases e : bs[q] = bs[p]
    · rw [if_pos e]
      rw [less_cons] at hb
      have hb' : less (bs.drop (q + 1)) (bs.drop (p + 1)) = true := by
        rcases hb with h1 | ⟨_, h1⟩
        · rw [e] at h1; omega
        · exact h1
      -- the row of q + 1 is before that of p + 1
      have hrq := row_lt hl hp (p := q + 1) (by omega)
      have hrp := row_lt hl hp (p := p + 1) h
      have hlt : rowOf zs (q + 1) < rowOf zs (p + 1) := before_rows hs hrq hrp (by
        rw [gi_row hl hp (by omega), gi_row hl hp h]
        simpa [before, sfx] using hb')
      have hpred := rows_before hs (i := rowOf zs (p + 1) - 1) hrp (by omega)
      rw [gi_row hl hp h] at hpred
      unfold before at hpred
      simp only [sfx, Int.toNat_natCast] at hpred
      rcases Nat.lt_or_ge (rowOf zs (q + 1)) (rowOf zs (p + 1) - 1) with h2 | h2
      · have hm := rows_before hs (i := rowOf zs (q + 1)) (j := rowOf zs (p + 1) - 1) (by omega) h2
        rw [gi_row hl hp (by omega)] at hm
        unfold before at hm
        simp only [sfx, Int.toNat_natCast] at hm
        have := lcp_mid hm hpred
        omega
      · have he : rowOf zs (p + 1) - 1 = rowOf zs (q + 1) := by omega
        rw [he, gi_row hl hp (by omega), Int.toNat_natCast]
        omega
    · rw [if_neg e]; omega
  · rw [List.drop_of_length_le (by omega : bs.length ≤ q)]
    simp [lcp]
end

/-- what stands in the result when the places below p are done. -/
def commonPl (bs : List UInt8) (zs : List Int) (p : Nat) : List Int := (List.range zs.length).map fun i => if gi zs i < (p : Int) then commonF bs zs i else 0
theorem commonPl_length (bs : List UInt8) (zs : List Int) (p : Nat) : (commonPl bs zs p).length = zs.length := by simp [commonPl]
section
variable {bs : List UInt8} {zs : List Int} (hl : zs.length = bs.length + 1) (hp : permErr zs = 0)
include hl hp
theorem commonPl_zero : commonPl bs zs 0 = List.replicate zs.length 0 := by
  have _ := hl
  apply List.ext_getElem
  · simp [commonPl]
  intro i h1 h2
  have hi : i < zs.length := by simpa [commonPl] using h1
  have := ((permErr_zero_iff zs).1 hp).1 (gi zs i) (gi_mem hi)
  simp only [commonPl, List.getElem_map, List.getElem_range, List.getElem_replicate]
  rw [if_neg (by omega)]
theorem commonPl_done {p : Nat} (h : bs.length < p) : commonPl bs zs p = commonL bs zs := by
  apply List.ext_getElem
  · simp [commonPl, commonL, commonTo]
  intro i h1 h2
  have hi : i < zs.length := by simpa [commonPl] using h1
  have := ((permErr_zero_iff zs).1 hp).1 (gi zs i) (gi_mem hi)
  simp only [commonPl, commonL, commonTo, List.getElem_map, List.getElem_range]
  rw [if_pos (by omega)]
theorem commonPl_next {p : Nat} (h : p ≤ bs.length) : (commonPl bs zs p).set (rowOf zs p) (commonF bs zs (rowOf zs p)) = commonPl bs zs (p + 1) := by
  apply List.ext_getElem
  · simp [commonPl]
  intro i h1 h2
  have hi : i < zs.length := by simpa [commonPl] using h1
  rw [List.getElem_set]
  simp only [commonPl, List.getElem_map, List.getElem_range]
  by_cases e : rowOf zs p = i
  · subst e
    rw [if_pos rfl, gi_row hl hp h, if_pos (by omega)]
  · rw [if_neg e]
    have hne : gi zs i ≠ p := fun h' => e (row_of_gi hl hp hi p h')
    by_cases h3 : gi zs i < p
    · rw [if_pos h3, if_pos (by omega)]
    · rw [if_neg h3, if_neg (by omega)]
theorem commonPl_skip {p : Nat} (h : p ≤ bs.length) (hr : rowOf zs p = 0) : commonPl bs zs p = commonPl bs zs (p + 1) := by
  rw [← commonPl_next hl hp h]
  have h0 : commonF bs zs (rowOf zs p) = 0 := by rw [hr]; rfl
  rw [h0]
  apply List.ext_getElem
  · simp
  intro i h1 h2
  rw [List.getElem_set]
  split
  · rename_i e
    subst e
    simp only [commonPl, List.getElem_map, List.getElem_range]
    split
    · exact h0
    · rfl
  · rfl
end
theorem gi_ranksL {bs : List UInt8} {zs : List Int} (hl : zs.length = bs.length + 1) {p : Nat} (h : p ≤ bs.length) : gi (ranksL zs) p = (rowOf zs p : Nat) := by
  simp [gi, ranksL, List.getD, show p < zs.length by omega, rowOf]
end Go.Proofs.Ytkndcbnajkiceaa
