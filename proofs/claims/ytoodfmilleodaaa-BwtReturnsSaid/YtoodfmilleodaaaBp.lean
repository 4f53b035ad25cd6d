/- Plain facts about the links of a transformed string: their order, that they are a permutation, and that the walk from row 0 meets the row without a byte. -/
import Derived.Test.YtoodfmilleodaaaBe
namespace Go.Proofs.Ytoodfmilleodaaa
open Go.RowKit Go.Proofs
set_option linter.unusedVariables false

theorem cntTo_full (bs : List UInt8) (d : Nat) : cntTo bs bs.length d = ((bs.map UInt8.toNat).count d : Nat) := by unfold cntTo; rw [List.take_length]
/-- how many bytes are less than d. -/
def lessN (bs : List UInt8) (d : Nat) : Nat := bs.countP (fun b => decide (b.toNat < d))
theorem lessN_succ (bs : List UInt8) (d : Nat) : lessN bs (d + 1) = lessN bs d + (bs.map UInt8.toNat).count d := by
  unfold lessN
  induction bs with
  | nil => rfl
  | cons b bs ih =>
    rw [List.countP_cons, List.countP_cons, List.map_cons, List.count_cons, ih]
    by_cases h : b.toNat < d
    · have h1 : ¬ b.toNat = d := by omega
      have h2 : b.toNat < d + 1 := by omega
      simp [h, h1, h2]; omega
    · by_cases h1 : b.toNat = d
      · simp [h1]; omega
      · have h2 : ¬ b.toNat < d + 1 := by omega
        simp [h, h1, h2]
theorem stB_eq (bs : List UInt8) : ∀ d, stB bs d = 1 + (lessN bs d : Int)
  | 0 => by simp [stB, lessN]
  | d + 1 => by rw [stB, stB_eq bs d, lessN_succ, cntTo_full]; push_cast; omega
theorem lessN_mono (bs : List UInt8) {d e : Nat} (h : d ≤ e) : lessN bs d ≤ lessN bs e := by
  unfold lessN
  exact List.countP_mono_left fun b _ hb => by simp at hb ⊢; omega
theorem lessN_le (bs : List UInt8) (d : Nat) : lessN bs d ≤ bs.length := List.countP_le_length
/-- how often the byte of place i stands ahead of it. -/
def sameN (bs : List UInt8) (k d : Nat) : Nat := ((bs.take k).map UInt8.toNat).count d
theorem sameN_eq (bs : List UInt8) (k d : Nat) : cntTo bs k d = (sameN bs k d : Int) := rfl
theorem sameN_next {bs : List UInt8} {k : Nat} (hk : k < bs.length) (d : Nat) : sameN bs (k + 1) d = sameN bs k d + if bn bs k = d then 1 else 0 := by
  have := cntTo_next hk d
  rw [sameN_eq, sameN_eq] at this
  split at this <;> simp_all <;> omega
theorem sameN_mono {bs : List UInt8} {d i : Nat} : ∀ {j : Nat}, i ≤ j → j ≤ bs.length → sameN bs i d ≤ sameN bs j d
  | 0, h, _ => by obtain rfl : i = 0 := by omega
                  exact Nat.le_refl _
  | j + 1, h, hj => by
    rcases Nat.lt_or_ge i (j + 1) with h1 | h1
    · have := sameN_mono (bs := bs) (d := d) (i := i) (j := j) (by omega) (by omega)
      rw [sameN_next (by omega)]; omega
    · obtain rfl : i = j + 1 := by omega
      exact Nat.le_refl _
def lkN (bs : List UInt8) (k : Nat) : Nat := 1 + lessN bs (bn bs k) + sameN bs k (bn bs k)
theorem lkB_eq (bs : List UInt8) (k : Nat) : lkB bs k = (lkN bs k : Int) := by unfold lkB nxB lkN; rw [stB_eq, sameN_eq]; push_cast; omega
theorem same_lt {bs : List UInt8} {i j : Nat} (hij : i < j) (hj : j ≤ bs.length) : sameN bs i (bn bs i) < sameN bs j (bn bs i) := by
  have h1 := sameN_next (bs := bs) (k := i) (by omega) (bn bs i)
  rw [if_pos rfl] at h1
  have h2 := sameN_mono (bs := bs) (d := bn bs i) (i := i + 1) (j := j) (by omega) hj
  omega
theorem lkN_lt_less {bs : List UInt8} {i : Nat} (hi : i < bs.length) : lkN bs i < 1 + lessN bs (bn bs i + 1) := by
  have h1 := same_lt hi (Nat.le_refl bs.length)
  have h2 := lessN_succ bs (bn bs i)
  have h3 : sameN bs bs.length (bn bs i) = (bs.map UInt8.toNat).count (bn bs i) := by unfold sameN; rw [List.take_length]
  unfold lkN
  omega
theorem lkN_less {bs : List UInt8} {i j : Nat} (hi : i < bs.length) (h : bn bs i < bn bs j) : lkN bs i < lkN bs j := by
  have h1 := lkN_lt_less hi
  have h2 := lessN_mono bs (d := bn bs i + 1) (e := bn bs j) (by omega)
  have : 1 + lessN bs (bn bs j) ≤ lkN bs j := by unfold lkN; omega
  omega
theorem lkN_same {bs : List UInt8} {i j : Nat} (hj : j < bs.length) (h : bn bs i = bn bs j) (hij : i < j) : lkN bs i < lkN bs j := by
  have h1 := same_lt hij (Nat.le_of_lt hj)
  unfold lkN
  rw [← h]
  omega
/-- byte first, then place. -/
theorem lkN_lt_iff {bs : List UInt8} {i j : Nat} (hi : i < bs.length) (hj : j < bs.length) : lkN bs i < lkN bs j ↔ bn bs i < bn bs j ∨ bn bs i = bn bs j ∧ i < j := by
  constructor
  · intro h
    rcases Nat.lt_trichotomy (bn bs i) (bn bs j) with h1 | h1 | h1
    · exact .inl h1
    · rcases Nat.lt_trichotomy i j with h2 | h2 | h2
      · exact .inr ⟨h1, h2⟩
      · subst h2; omega
      · have := lkN_same hi h1.symm h2; omega
    · have := lkN_less hj h1; omega
  · rintro (h | ⟨h1, h2⟩)
    · exact lkN_less hi h
    · exact lkN_same hj h1 h2
theorem lkN_le {bs : List UInt8} {i : Nat} (hi : i < bs.length) : 1 ≤ lkN bs i ∧ lkN bs i ≤ bs.length := by
  have h1 := lkN_lt_less hi
  have h2 := lessN_le bs (bn bs i + 1)
  unfold lkN at h1 ⊢
  omega
/-- the link of row r. -/
def lk (p : Nat) (bs : List UInt8) (r : Nat) : Nat := if r = p then 0 else lkN bs (rowI p r)
theorem rowI_lt {p r n : Nat} (hp : p ≤ n) (hr : r ≤ n) (h : r ≠ p) : rowI p r < n := by unfold rowI; split <;> omega
theorem gi_lkAll {p : Nat} {bs : List UInt8} {r : Nat} (hp : p ≤ bs.length) (hr : r ≤ bs.length) : gi (lkAll p bs) r = (lk p bs r : Int) := by
  unfold lkAll
  rw [gi_lkTo hr]
  unfold lkR lk
  by_cases h : r = p
  · rw [if_pos h, if_pos h]; rfl
  · rw [if_neg h, if_neg h, if_pos (rowI_lt hp hr h), lkB_eq]
theorem lkAll_eq {p : Nat} {bs : List UInt8} (hp : p ≤ bs.length) : lkAll p bs = (List.range (bs.length + 1)).map fun r => (lk p bs r : Int) := by
  apply List.ext_getElem
  · simp [lkAll, lkTo]
  intro i h1 h2
  have hi : i ≤ bs.length := by simp at h2; omega
  have := gi_lkAll (r := i) hp hi
  rw [gi_get h1] at this
  rw [this]; simp
theorem lk_le {p : Nat} {bs : List UInt8} (hp : p ≤ bs.length) {r : Nat} (hr : r ≤ bs.length) : lk p bs r ≤ bs.length := by
  unfold lk
  split
  · omega
  · rename_i h; exact (lkN_le (rowI_lt hp hr h)).2
theorem lk_pos {p : Nat} {bs : List UInt8} (hp : p ≤ bs.length) {r : Nat} (hr : r ≤ bs.length) (h : r ≠ p) : 1 ≤ lk p bs r := by
  unfold lk
  rw [if_neg h]
  exact (lkN_le (rowI_lt hp hr h)).1
theorem lkN_inj {bs : List UInt8} {i j : Nat} (hi : i < bs.length) (hj : j < bs.length) (h : lkN bs i = lkN bs j) : i = j := by
  rcases Nat.lt_trichotomy i j with h1 | h1 | h1
  · rcases Nat.lt_trichotomy (bn bs i) (bn bs j) with h2 | h2 | h2
    · have := lkN_less hi h2; omega
    · have := lkN_same hj h2 h1; omega
    · have := lkN_less hj h2; omega
  · exact h1
  · rcases Nat.lt_trichotomy (bn bs i) (bn bs j) with h2 | h2 | h2
    · have := lkN_less hi h2; omega
    · have := lkN_same hi h2.symm h1; omega
    · have := lkN_less hj h2; omega
theorem rowI_inj {p r s : Nat} (hr : r ≠ p) (hs : s ≠ p) (h : rowI p r = rowI p s) : r = s := by rw [← rowN_rowI hr, ← rowN_rowI hs, h]
theorem lk_inj {p : Nat} {bs : List UInt8} (hp : p ≤ bs.length) {r s : Nat} (hr : r ≤ bs.length) (hs : s ≤ bs.length) (h : lk p bs r = lk p bs s) : r = s := by
  by_cases h1 : r = p
  · by_cases h2 : s = p
    · rw [h1, h2]
    · have := lk_pos hp hs h2
      rw [← h, h1] at this
      simp [lk] at this
  · by_cases h2 : s = p
    · have := lk_pos hp hr h1
      rw [h, h2] at this
      simp [lk] at this
    · refine rowI_inj h1 h2 (lkN_inj (rowI_lt hp hr h1) (rowI_lt hp hs h2) ?_)
      unfold lk at h
      rwa [if_neg h1, if_neg h2] at h

/-- the walk: the row behind k steps. -/
def itR (p : Nat) (bs : List UInt8) : Nat → Nat
  | 0 => 0
  | k + 1 => lk p bs (itR p bs k)
theorem itR_le {p : Nat} {bs : List UInt8} (hp : p ≤ bs.length) : ∀ k, itR p bs k ≤ bs.length
  | 0 => Nat.zero_le _
  | k + 1 => lk_le hp (itR_le hp k)
theorem itR_back {p : Nat} {bs : List UInt8} (hp : p ≤ bs.length) : ∀ {i j : Nat}, i ≤ j → itR p bs i = itR p bs j → itR p bs (j - i) = 0
  | 0, j, _, h => by rw [Nat.sub_zero, ← h]; rfl
  | i + 1, 0, h, _ => by omega
  | i + 1, j + 1, h, he => by
    have := itR_back hp (i := i) (j := j) (by omega) (lk_inj hp (itR_le hp i) (itR_le hp j) he)
    rwa [show j + 1 - (i + 1) = j - i by omega]
theorem itR_fresh {p : Nat} {bs : List UInt8} (hp : p ≤ bs.length) {m : Nat} (h : ∀ k, k < m → itR p bs k ≠ p) {i j : Nat} (hij : i < j) (hj : j ≤ m) : itR p bs i ≠ itR p bs j := fun he => by
  have h0 := itR_back hp (Nat.le_of_lt hij) he
  obtain ⟨d, hd⟩ : ∃ d, j - i = d + 1 := ⟨j - i - 1, by omega⟩
  rw [hd] at h0
  have := lk_pos hp (itR_le hp d) (h d (by omega))
  have e : itR p bs (d + 1) = lk p bs (itR p bs d) := rfl
  omega
theorem itR_nodup {p : Nat} {bs : List UInt8} (hp : p ≤ bs.length) {m : Nat} (h : ∀ k, k < m → itR p bs k ≠ p) : ((List.range (m + 1)).map (itR p bs)).Nodup := by
  rw [List.Nodup, List.pairwise_iff_getElem]
  intro i j hi hj hij
  simp only [List.getElem_map, List.getElem_range]
  exact itR_fresh hp h hij (by simp at hj; omega)
def firstN (f : Nat → Bool) : Nat → Nat → Nat
  | 0, k => k
  | m + 1, k => if f k = true then firstN f m (k + 1) else k
theorem firstN_spec (f : Nat → Bool) : ∀ m k, (∀ i, k ≤ i → i < firstN f m k → f i = true) ∧ (firstN f m k < k + m → f (firstN f m k) = false)
  | 0, k => ⟨fun i h1 h2 => by unfold firstN at h2; omega, fun h => by unfold firstN at h; omega⟩
  | m + 1, k => by
    unfold firstN
    by_cases hf : f k = true
    · rw [if_pos hf]
      obtain ⟨h1, h2⟩ := firstN_spec f m (k + 1)
      refine ⟨fun i hi hlt => ?_, fun h => h2 (by omega)⟩
      rcases Nat.lt_or_ge k i with h | h
      · exact h1 i h hlt
      · obtain rfl : i = k := by omega
        exact hf
    · rw [if_neg hf]
      exact ⟨fun i hi hlt => by omega, fun _ => by simpa using hf⟩
/-- how many rows the walk has ahead of row p. -/
def wl (p : Nat) (bs : List UInt8) : Nat := firstN (fun k => decide (itR p bs k ≠ p)) (bs.length + 1) 0
theorem wl_ne {p : Nat} {bs : List UInt8} {k : Nat} (hk : k < wl p bs) : itR p bs k ≠ p := by
  have := (firstN_spec (fun k => decide (itR p bs k ≠ p)) (bs.length + 1) 0).1 k (Nat.zero_le _) hk
  simpa using this
theorem wl_le {p : Nat} {bs : List UInt8} (hp : p ≤ bs.length) : wl p bs ≤ bs.length := by
  have h1 := itR_nodup hp (m := wl p bs) (fun k hk => wl_ne hk)
  have h2 := nodup_le (bs.length + 1) _ h1 (fun x hx => by obtain ⟨k, _, rfl⟩ := List.mem_map.1 hx; have := itR_le hp k; omega)
  simp at h2
  exact h2
theorem wl_at {p : Nat} {bs : List UInt8} (hp : p ≤ bs.length) : itR p bs (wl p bs) = p := by
  have := (firstN_spec (fun k => decide (itR p bs k ≠ p)) (bs.length + 1) 0).2 (by have := wl_le hp; unfold wl at this; omega)
  simpa [wl] using this
/-- the byte of row r, the walk's bytes, and the string that they give. -/
def by8 (p : Nat) (bs : List UInt8) (r : Nat) : UInt8 := bs.getD (rowI p r) 0
def backTo (p : Nat) (bs : List UInt8) (k : Nat) : List UInt8 := (List.range k).map fun i => by8 p bs (itR p bs i)
def backL (p : Nat) (bs : List UInt8) : List UInt8 := backTo p bs (wl p bs)
def invL (p : Nat) (bs : List UInt8) : List UInt8 := if wl p bs < bs.length then [] else (backL p bs).reverse
def invE (p : Nat) (bs : List UInt8) : Int := if wl p bs < bs.length then 3 else 0
theorem backTo_length (p : Nat) (bs : List UInt8) (k : Nat) : (backTo p bs k).length = k := by simp [backTo]
theorem backTo_next (p : Nat) (bs : List UInt8) (k : Nat) : backTo p bs (k + 1) = backTo p bs k ++ [by8 p bs (itR p bs k)] := by simp [backTo, List.range_succ]
theorem byteR_eq (bs : List UInt8) (p r : Nat) : byteR bs p r = ((by8 p bs r).toNat : Int) := by
  unfold byteR by8 rowI gb
  split <;> rfl
end Go.Proofs.Ytoodfmilleodaaa
