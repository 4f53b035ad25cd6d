/- Plain law of the backward search: it counts the places at which a pattern occurs. -/
import Derived.Test.YtoodfmilleodaaaBy
import Derived.Test.YtoodfmilleodaaaBt
namespace Go.Proofs.Ytoodfmilleodaaa
open Go.RowKit Go.Proofs
set_option linter.unusedVariables false

/-- how many bytes stand in the rows ahead of row r. -/
def idxR (p r : Nat) : Nat := if r ≤ p then r else r - 1
theorem rowN_lt_iff {p j r : Nat} : rowN p j < r ↔ j < idxR p r := by unfold rowN idxR; split <;> split <;> omega
section
variable {p : Nat} {bs : List UInt8}
theorem befTo_eq (r d : Nat) : ∀ m, m ≤ bs.length → befTo p bs r d m = sameN bs (min m (idxR p r)) d
  | 0, _ => by simp [befTo, sameN]
  | m + 1, hm => by
    rw [befTo_next, befTo_eq r d m (by omega)]
    by_cases h : m < idxR p r
    · rw [show min (m + 1) (idxR p r) = m + 1 by omega, show min m (idxR p r) = m by omega, sameN_next (by omega)]
      by_cases h2 : bn bs m = d
      · rw [if_pos ⟨rowN_lt_iff.2 h, h2⟩, if_pos h2]
      · rw [if_neg (fun x => h2 x.2), if_neg h2]
    · rw [show min (m + 1) (idxR p r) = idxR p r by omega, show min m (idxR p r) = idxR p r by omega, if_neg (fun x => h (rowN_lt_iff.1 x.1)), Nat.add_zero]
theorem idxR_le (hp : p ≤ bs.length) {r : Nat} (hr : r ≤ bs.length + 1) : idxR p r ≤ bs.length := by unfold idxR; split <;> omega
theorem befN_eq (hp : p ≤ bs.length) {r : Nat} (hr : r ≤ bs.length + 1) (d : Nat) : befN p bs r d = sameN bs (idxR p r) d := by
  unfold befN
  rw [befTo_eq r d _ (Nat.le_refl _), Nat.min_eq_right (idxR_le hp hr)]
theorem idxR_rowI {r : Nat} (h : r ≠ p) : idxR p r = rowI p r := by unfold idxR rowI; split <;> split <;> omega
theorem idxR_mono {r s : Nat} (h : r ≤ s) : idxR p r ≤ idxR p s := by unfold idxR; split <;> split <;> omega
theorem idxR_lt {r s : Nat} (h : r < s) (hne : r ≠ p) : idxR p r < idxR p s := by unfold idxR; split <;> split <;> omega
theorem sameN_less (d : Nat) : lessN bs d + sameN bs bs.length d = lessN bs (d + 1) := by
  rw [lessN_succ]
  unfold sameN
  rw [List.take_length]
theorem rngTo_row (hp : p ≤ bs.length) (pat : List UInt8) : ∀ k, (rngTo p bs pat k).1 ≤ bs.length + 1 ∧ (rngTo p bs pat k).2 ≤ bs.length + 1
  | 0 => by simp [rngTo]
  | k + 1 => by
    obtain ⟨h1, h2⟩ := rngTo_row hp pat k
    rw [rngTo]
    dsimp only
    have e1 := befN_eq hp h1 (bn pat (pat.length - 1 - k))
    have e2 := befN_eq hp h2 (bn pat (pat.length - 1 - k))
    have m1 := sameN_mono (bs := bs) (d := bn pat (pat.length - 1 - k)) (idxR_le hp h1) (Nat.le_refl _)
    have m2 := sameN_mono (bs := bs) (d := bn pat (pat.length - 1 - k)) (idxR_le hp h2) (Nat.le_refl _)
    have m3 := sameN_less (bs := bs) (bn pat (pat.length - 1 - k))
    have m4 := lessN_le bs (bn pat (pat.length - 1 - k) + 1)
    omega
theorem drop_pat (pat : List UInt8) {k : Nat} (hk : k < pat.length) : pat.drop (pat.length - (k + 1)) = pat.getD (pat.length - 1 - k) 0 :: pat.drop (pat.length - k) := by
  rw [List.drop_eq_getElem_cons (by omega : pat.length - (k + 1) < pat.length), show pat.length - (k + 1) + 1 = pat.length - k by omega]
  congr 1
  rw [List.getD_eq_getElem?_getD, List.getElem?_eq_getElem (by omega : pat.length - 1 - k < pat.length)]
  simp only [Option.getD_some]
  congr 1
  omega
/-- the rows between the two bounds are those whose suffixes begin with the end of the pattern. -/
theorem rng_spec (hp : p ≤ bs.length) (hw : wl p bs = bs.length) (pat : List UInt8) : ∀ k, k ≤ pat.length → ∀ j, j ≤ bs.length → (((rngTo p bs pat k).1 ≤ itR p bs j ∧ itR p bs j < (rngTo p bs pat k).2) ↔ (tailW p bs j).take k = pat.drop (pat.length - k))
  | 0, _, j, hj => by
    have := itR_le hp j
    simp [rngTo]
    omega
  | k + 1, hk, 0, _ => by
    rw [tailW_zero hw, drop_pat pat (by omega)]
    refine ⟨fun h => ?_, fun h => by simp at h⟩
    have h1 := h.1
    rw [rngTo] at h1
    have : itR p bs 0 = 0 := rfl
    dsimp only at h1
    omega
  | k + 1, hk, j + 1, hj => by
    obtain ⟨hlo, hhi⟩ := rngTo_row hp pat k
    have ih := rng_spec hp hw pat k (by omega) j (by omega)
    have hne := wl_ne (p := p) (bs := bs) (k := j) (by omega)
    have hr := itR_le hp j
    rw [tailW_succ hw (by omega), drop_pat pat (by omega), List.take_succ_cons]
    have hlk : itR p bs (j + 1) = 1 + lessN bs (by8 p bs (itR p bs j)).toNat + sameN bs (idxR p (itR p bs j)) (by8 p bs (itR p bs j)).toNat := by
      show lk p bs (itR p bs j) = _
      unfold lk lkN
      rw [if_neg hne, idxR_rowI hne]
      rfl
    have hbn : bn bs (idxR p (itR p bs j)) = (by8 p bs (itR p bs j)).toNat := by rw [idxR_rowI hne]; rfl
    have hil := idxR_le hp (r := itR p bs j) (by omega)
    have hil2 : idxR p (itR p bs j) < bs.length := by rw [idxR_rowI hne]; exact rowI_lt hp hr hne
    rw [rngTo]
    dsimp only
    rw [befN_eq hp hlo, befN_eq hp hhi, hlk]
    have hc : bn pat (pat.length - 1 - k) = (pat.getD (pat.length - 1 - k) 0).toNat := rfl
    obtain ⟨y, hy⟩ : ∃ y, y = by8 p bs (itR p bs j) := ⟨_, rfl⟩
    obtain ⟨c, hcc⟩ : ∃ c, c = pat.getD (pat.length - 1 - k) 0 := ⟨_, rfl⟩
    rw [hc, ← hcc]
    rw [← hy] at hbn ⊢
    obtain ⟨r, hre⟩ : ∃ r, r = itR p bs j := ⟨_, rfl⟩
    rw [← hre] at hbn ih hne hr hil hil2 ⊢
    obtain ⟨lo, hloe⟩ : ∃ lo, lo = (rngTo p bs pat k).1 := ⟨_, rfl⟩
    obtain ⟨hi, hhie⟩ : ∃ hi, hi = (rngTo p bs pat k).2 := ⟨_, rfl⟩
    rw [← hloe] at hlo ih ⊢
    rw [← hhie] at hhi ih ⊢
    clear hlk hc hre hloe hhie hy hcc
    have hcons : (y :: (tailW p bs j).take k = c :: pat.drop (pat.length - k)) ↔ (y = c ∧ (tailW p bs j).take k = pat.drop (pat.length - k)) := by simp
    rw [hcons, ← ih]
    by_cases hyc : y = c
    · subst hyc
      have a1 : sameN bs (idxR p lo) y.toNat ≤ sameN bs (idxR p r) y.toNat ↔ lo ≤ r := by
        constructor
        · intro h
          rcases Nat.lt_or_ge r lo with h1 | h1
          · have h2 := same_lt (bs := bs) (idxR_lt h1 hne) (idxR_le hp hlo)
            rw [hbn] at h2
            omega
          · exact h1
        · intro h
          exact sameN_mono (idxR_mono h) hil
      have a2 : sameN bs (idxR p r) y.toNat < sameN bs (idxR p hi) y.toNat ↔ r < hi := by
        constructor
        · intro h
          rcases Nat.lt_or_ge r hi with h1 | h1
          · exact h1
          · have := sameN_mono (bs := bs) (d := y.toNat) (idxR_mono (p := p) h1) hil
            omega
        · intro h
          have h2 := same_lt (bs := bs) (idxR_lt h hne) (idxR_le hp hhi)
          rw [hbn] at h2
          exact h2
      constructor
      · rintro ⟨h1, h2⟩
        exact ⟨rfl, a1.1 (by omega), a2.1 (by omega)⟩
      · rintro ⟨_, h1, h2⟩
        have := a1.2 h1
        have := a2.2 h2
        omega
    · refine ⟨fun h => ?_, fun h => absurd h.1 hyc⟩
      exfalso
      have hne2 : y.toNat ≠ c.toNat := fun e => hyc (UInt8.toNat_inj.1 e)
      have b1 := sameN_mono (bs := bs) (d := c.toNat) (idxR_le hp hhi) (Nat.le_refl _)
      have b2 := sameN_less (bs := bs) c.toNat
      have b3 : sameN bs (idxR p r) y.toNat < sameN bs bs.length y.toNat := by
        have := same_lt (bs := bs) hil2 (Nat.le_refl _)
        rw [hbn] at this
        exact this
      have b4 := sameN_less (bs := bs) y.toNat
      rcases Nat.lt_or_ge y.toNat c.toNat with h1 | h1
      · have := lessN_mono bs (d := y.toNat + 1) (e := c.toNat) (by omega)
        omega
      · have := lessN_mono bs (d := c.toNat + 1) (e := y.toNat) (by omega)
        omega
theorem countP_range (lo hi : Nat) : ∀ m, (List.range m).countP (fun r => decide (lo ≤ r ∧ r < hi)) = min m hi - min m lo
  | 0 => by simp
  | m + 1 => by
    rw [List.range_succ, List.countP_append, countP_range lo hi m, List.countP_singleton]
    by_cases h : lo ≤ m ∧ m < hi
    · rw [if_pos (by simpa using h)]; omega
    · rw [if_neg (by simpa using h)]; omega
theorem perm_of_inj (n : Nat) (f : Nat → Nat) (h1 : ∀ k, k ≤ n → f k ≤ n) (h2 : ∀ k l, k ≤ n → l ≤ n → f k = f l → k = l) : ((List.range (n + 1)).map f).Perm (List.range (n + 1)) := by
  have hnd : ((List.range (n + 1)).map f).Nodup := by
    rw [List.Nodup, List.pairwise_map]
    refine List.Pairwise.imp_of_mem (R := fun a b => a ≠ b) ?_ List.nodup_range
    intro a b ha hb hne e
    exact hne (h2 a b (by simp at ha; omega) (by simp at hb; omega) e)
  refine (List.perm_ext_iff_of_nodup hnd List.nodup_range).2 fun a => ?_
  constructor
  · intro h
    obtain ⟨k, hk, rfl⟩ := List.mem_map.1 h
    have := h1 k (by simp at hk; omega)
    simp
    omega
  · intro h
    have ha : a < n + 1 := by simpa using h
    have hperm : permErr ((List.range (n + 1)).map fun k => (f k : Int)) = 0 := by
      rw [permErr_zero_iff]
      constructor
      · intro z hz
        obtain ⟨k, hk, rfl⟩ := List.mem_map.1 hz
        have := h1 k (by simp at hk; omega)
        simp
        omega
      · rw [List.Nodup, List.pairwise_map] at hnd ⊢
        exact hnd.imp fun hne e => hne (by omega)
    have := perm_all_mem hperm (j := a) (by simp; omega)
    obtain ⟨k, hk, he⟩ := List.mem_map.1 this
    exact List.mem_map.2 ⟨k, hk, by omega⟩
theorem occTo_count (s pat : List UInt8) : ∀ k, occTo s pat k = (List.range k).countP fun i => decide ((s.drop i).take pat.length = pat)
  | 0 => rfl
  | k + 1 => by rw [occTo, occTo_count s pat k, List.range_succ, List.countP_append, List.countP_singleton]; simp
theorem occTo_all (s pat : List UInt8) : ∀ k, s.length + 1 - pat.length ≤ k → k ≤ s.length + 1 → occTo s pat k = occN s pat
  | 0, h, _ => by unfold occN; rw [show s.length + 1 - pat.length = 0 by omega]
  | k + 1, h, hk => by
    rcases Nat.lt_or_ge k (s.length + 1 - pat.length) with h1 | h1
    · unfold occN; rw [show s.length + 1 - pat.length = k + 1 by omega]
    · rw [occTo, occTo_all s pat k h1 (by omega), if_neg, Nat.add_zero]
      intro e
      have := congrArg List.length e
      simp at this
      omega
/-- the search counts the places. -/
theorem cnt_occ (hp : p ≤ bs.length) (hw : wl p bs = bs.length) (pat : List UInt8) : cntN p bs pat = occN (strW p bs) pat := by
  have hsl := strW_length hw
  rw [← occTo_all (strW p bs) pat (bs.length + 1) (by omega) (by omega), occTo_count]
  obtain ⟨hlo, hhi⟩ := rngTo_row hp pat pat.length
  have h1 : cntN p bs pat = (List.range (bs.length + 1)).countP fun r => decide ((rngTo p bs pat pat.length).1 ≤ r ∧ r < (rngTo p bs pat pat.length).2) := by
    rw [countP_range]; unfold cntN; omega
  rw [h1, ← (perm_of_inj bs.length (itR p bs) (fun k _ => itR_le hp k) (fun k l hk hl e => itR_inj hp hw hk hl e)).countP_eq, List.countP_map]
  rw [← (perm_of_inj bs.length (fun k => bs.length - k) (fun k _ => by omega) (fun k l hk hl e => by omega)).countP_eq (fun i => decide (((strW p bs).drop i).take pat.length = pat)), List.countP_map]
  apply List.countP_congr
  intro j hj
  have hj' : j ≤ bs.length := by simp at hj; omega
  have := rng_spec hp hw pat pat.length (Nat.le_refl _) j hj'
  rw [Nat.sub_self, List.drop_zero] at this
  simp only [Function.comp_apply, decide_eq_true_eq]
  exact this
end
end Go.Proofs.Ytoodfmilleodaaa
