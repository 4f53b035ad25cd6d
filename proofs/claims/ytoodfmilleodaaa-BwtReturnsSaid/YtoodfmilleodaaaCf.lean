/- Plain law: the links of the transformed string of a string go from the row of a place to the row of the place ahead of it; so the walk gives the string again. -/
import Derived.Test.YtoodfmilleodaaaBz
namespace Go.Proofs.Ytoodfmilleodaaa
open Go.RowKit Go.Proofs
set_option linter.unusedVariables false

section
variable {b : List UInt8}
/-- the place of row r, the row of place z. -/
def plO (b : List UInt8) (r : Nat) : Nat := (gi (sortL b) r).toNat
def rowO (b : List UInt8) (z : Nat) : Nat := (sortL b).idxOf (z : Int)
theorem gi_plO {r : Nat} (hr : r ≤ b.length) : gi (sortL b) r = (plO b r : Int) := by
  have := gi_sort b hr
  unfold plO
  omega
theorem plO_le {r : Nat} (hr : r ≤ b.length) : plO b r ≤ b.length := by
  have := gi_sort b hr
  unfold plO
  omega
theorem rowO_lt {z : Nat} (hz : z ≤ b.length) : rowO b z < (sortL b).length := List.idxOf_lt_length_iff.2 (mem_sortL.2 ⟨by omega, by omega⟩)
theorem rowO_le {z : Nat} (hz : z ≤ b.length) : rowO b z ≤ b.length := by
  have := rowO_lt hz
  rw [sortL_length] at this
  omega
theorem plO_rowO {z : Nat} (hz : z ≤ b.length) : plO b (rowO b z) = z := by
  have h := rowO_lt hz
  have e : (sortL b)[rowO b z] = (z : Int) := List.getElem_idxOf h
  unfold plO
  rw [gi_get h, e]
  exact Int.toNat_natCast z
theorem rowO_plO {r : Nat} (hr : r ≤ b.length) : rowO b (plO b r) = r := by
  have h : r < (sortL b).length := by rw [sortL_length]; omega
  have e := gi_plO hr
  rw [gi_get h] at e
  unfold rowO
  rw [← e]
  exact (sortL_nodup b).idxOf_getElem r h
theorem rowO_inj {x y : Nat} (hx : x ≤ b.length) (hy : y ≤ b.length) (h : rowO b x = rowO b y) : x = y := by rw [← plO_rowO hx, ← plO_rowO hy, h]
theorem rowO_asc {x y : Nat} (hx : x ≤ b.length) (hy : y ≤ b.length) (h : rowO b x < rowO b y) : less (b.drop x) (b.drop y) = true := by
  have h1 := rowO_lt hx
  have h2 := rowO_lt hy
  have := List.pairwise_iff_getElem.1 (sortL_sorted b) _ _ h1 h2 h
  have e1 : (sortL b)[rowO b x] = (x : Int) := List.getElem_idxOf h1
  have e2 : (sortL b)[rowO b y] = (y : Int) := List.getElem_idxOf h2
  rw [e1, e2] at this
  exact this
theorem rowO_lt_iff {x y : Nat} (hx : x ≤ b.length) (hy : y ≤ b.length) : rowO b x < rowO b y ↔ less (b.drop x) (b.drop y) = true := by
  refine ⟨rowO_asc hx hy, fun h => ?_⟩
  rcases Nat.lt_trichotomy (rowO b x) (rowO b y) with h1 | h1 | h1
  · exact h1
  · rw [rowO_inj hx hy h1, less_irrefl] at h; cases h
  · rw [less_asymm (rowO_asc hy hx h1)] at h; cases h
theorem rowO_zero : rowO b 0 = primN b := rfl
theorem rowO_end : rowO b b.length = 0 := by
  rcases Nat.eq_zero_or_pos (rowO b b.length) with h | h
  · exact h
  · have h1 : rowO b (plO b 0) < rowO b b.length := by rw [rowO_plO (Nat.zero_le _)]; exact h
    have := rowO_asc (plO_le (Nat.zero_le _)) (Nat.le_refl _) h1
    rw [List.drop_length, less_nil] at this
    cases this
theorem rowO_pos {z : Nat} (hz : z < b.length) : 0 < rowO b z := by
  rcases Nat.eq_zero_or_pos (rowO b z) with h | h
  · have := rowO_inj (by omega) (Nat.le_refl b.length) (h.trans rowO_end.symm)
    omega
  · exact h
theorem rowN_idxR {p k : Nat} (h : k ≠ p) : rowN p (idxR p k) = k := by unfold rowN idxR; split <;> split <;> omega
theorem plO_pos {r : Nat} (hr : r ≤ b.length) (h : r ≠ primN b) : 0 < plO b r := by
  rcases Nat.eq_zero_or_pos (plO b r) with h1 | h1
  · exact absurd (prim_only hr (by rw [gi_plO hr, h1]; rfl)) h
  · exact h1
theorem fwdTo_get (b : List UInt8) : ∀ k, k ≤ b.length + 1 → (fwdTo b k).length = idxR (primN b) k ∧ ∀ j, j < idxR (primN b) k → (fwdTo b k).getD j 0 = b.getD (plO b (rowN (primN b) j) - 1) 0
  | 0, _ => ⟨by simp [fwdTo, idxR], fun j hj => by simp [idxR] at hj⟩
  | k + 1, hk => by
    obtain ⟨h1, h2⟩ := fwdTo_get b k (by omega)
    rw [fwdTo]
    by_cases h : k = primN b
    · have e : gi (sortL b) k = 0 := by rw [h]; exact gi_prim b
      have e2 : idxR (primN b) (k + 1) = idxR (primN b) k := by unfold idxR; split <;> split <;> omega
      rw [e, if_neg (by omega), List.append_nil, e2]
      exact ⟨h1, h2⟩
    · have e2 : idxR (primN b) (k + 1) = idxR (primN b) k + 1 := by unfold idxR; split <;> split <;> omega
      have hp := plO_pos (by omega : k ≤ b.length) h
      rw [gi_plO (by omega), if_pos (by omega), e2, Int.toNat_natCast]
      refine ⟨by simp [h1], fun j hj => ?_⟩
      rcases Nat.lt_or_ge j (idxR (primN b) k) with h3 | h3
      · rw [List.getD_eq_getElem?_getD, List.getElem?_append_left (by omega), ← List.getD_eq_getElem?_getD]
        exact h2 j h3
      · obtain rfl : j = idxR (primN b) k := by omega
        rw [List.getD_eq_getElem?_getD, List.getElem?_append_right (by omega), h1, Nat.sub_self, rowN_idxR h]
        rfl
theorem fwdL_length (b : List UInt8) : (fwdL b).length = b.length := by
  have := (fwdTo_get b (b.length + 1) (Nat.le_refl _)).1
  unfold fwdL
  rw [this]
  have := primN_le b
  unfold idxR
  split <;> omega
theorem by8_fwd {r : Nat} (hr : r ≤ b.length) (h : r ≠ primN b) : by8 (primN b) (fwdL b) r = b.getD (plO b r - 1) 0 := by
  have h1 := rowI_lt (primN_le b) hr h
  have h2 := (fwdTo_get b (b.length + 1) (Nat.le_refl _)).2 (rowI (primN b) r) (by have := primN_le b; unfold idxR; split <;> omega)
  unfold by8
  rw [show fwdL b = fwdTo b (b.length + 1) from rfl, h2, rowN_rowI h]
theorem count_perm (n : Nat) (f : Nat → Nat) (h1 : ∀ k, k ≤ n → f k ≤ n) (h2 : ∀ k l, k ≤ n → l ≤ n → f k = f l → k = l) {r : Nat} (hr : r ≤ n) : (List.range (n + 1)).countP (fun s => decide (f s < f r)) = f r := by
  have h3 := countP_range 0 (f r) (n + 1)
  rw [← (perm_of_inj n f h1 h2).countP_eq, List.countP_map] at h3
  have := h1 r hr
  rw [show min (n + 1) (f r) - min (n + 1) 0 = f r by omega] at h3
  refine Eq.trans ?_ h3
  apply List.countP_congr
  intro s _
  simp
theorem perm_same (n : Nat) (f g : Nat → Nat) (f1 : ∀ k, k ≤ n → f k ≤ n) (f2 : ∀ k l, k ≤ n → l ≤ n → f k = f l → k = l) (g1 : ∀ k, k ≤ n → g k ≤ n) (g2 : ∀ k l, k ≤ n → l ≤ n → g k = g l → k = l)
    (h : ∀ s r, s ≤ n → r ≤ n → (f s < f r ↔ g s < g r)) {r : Nat} (hr : r ≤ n) : f r = g r := by
  rw [← count_perm n f f1 f2 hr, ← count_perm n g g1 g2 hr]
  apply List.countP_congr
  intro s hs
  have := h s r (by simp at hs; omega) hr
  simp only [decide_eq_true_eq]
  exact this
/-- the row of the place ahead. -/
def gO (b : List UInt8) (r : Nat) : Nat := if r = primN b then 0 else rowO b (plO b r - 1)
theorem gO_pos {r : Nat} (hr : r ≤ b.length) (h : r ≠ primN b) : 0 < gO b r := by
  unfold gO
  rw [if_neg h]
  have := plO_le hr
  have := plO_pos hr h
  exact rowO_pos (by omega)
theorem gO_le {r : Nat} (hr : r ≤ b.length) : gO b r ≤ b.length := by
  unfold gO
  split
  · omega
  · have := plO_le hr
    exact rowO_le (by omega)
theorem gO_prim : gO b (primN b) = 0 := by unfold gO; rw [if_pos rfl]
theorem gO_inj {r s : Nat} (hr : r ≤ b.length) (hs : s ≤ b.length) (h : gO b r = gO b s) : r = s := by
  by_cases h1 : r = primN b
  · by_cases h2 : s = primN b
    · rw [h1, h2]
    · have := gO_pos hs h2
      rw [← h, h1, gO_prim] at this
      omega
  · by_cases h2 : s = primN b
    · have := gO_pos hr h1
      rw [h, h2, gO_prim] at this
      omega
    · unfold gO at h
      rw [if_neg h1, if_neg h2] at h
      have a1 := plO_le hr
      have a2 := plO_le hs
      have a3 := plO_pos hr h1
      have a4 := plO_pos hs h2
      have := rowO_inj (by omega) (by omega) h
      rw [← rowO_plO hr, ← rowO_plO hs, show plO b r = plO b s by omega]
theorem drop_cons {z : Nat} (h1 : 0 < z) (h2 : z ≤ b.length) : b.drop (z - 1) = b.getD (z - 1) 0 :: b.drop z := by
  rw [List.drop_eq_getElem_cons (by omega : z - 1 < b.length), show z - 1 + 1 = z by omega]
  congr 1
  rw [List.getD_eq_getElem?_getD, List.getElem?_eq_getElem (by omega : z - 1 < b.length)]
  rfl
theorem gO_lt {s r : Nat} (hs : s ≤ b.length) (hr : r ≤ b.length) : lk (primN b) (fwdL b) s < lk (primN b) (fwdL b) r ↔ gO b s < gO b r := by
  have hl := fwdL_length b
  have hp := primN_le b
  by_cases h2 : r = primN b
  · rw [h2, gO_prim]
    unfold lk
    rw [if_pos (rfl : primN b = primN b)]
    omega
  by_cases h1 : s = primN b
  · have a1 := gO_pos hr h2
    have a2 := lk_pos (p := primN b) (bs := fwdL b) (by omega) (r := r) (by omega) h2
    rw [h1, gO_prim]
    have : lk (primN b) (fwdL b) (primN b) = 0 := by unfold lk; rw [if_pos rfl]
    omega
  rw [lk_lt_iff (by omega) (by omega) (by omega) h1 h2, by8_fwd hs h1, by8_fwd hr h2]
  have a1 := plO_le hr
  have a2 := plO_le hs
  have a3 := plO_pos hr h2
  have a4 := plO_pos hs h1
  unfold gO
  rw [if_neg h1, if_neg h2, rowO_lt_iff (by omega) (by omega), drop_cons a4 a2, drop_cons a3 a1, less_cons, ← rowO_lt_iff a2 a1, rowO_plO hs, rowO_plO hr]
theorem lk_fwd {r : Nat} (hr : r ≤ b.length) : lk (primN b) (fwdL b) r = gO b r := by
  have hl := fwdL_length b
  have hp := primN_le b
  refine perm_same b.length (lk (primN b) (fwdL b)) (gO b) (fun k hk => ?_) (fun k l hk hl' h => ?_) (fun k hk => gO_le hk) (fun k l hk hl' h => gO_inj hk hl' h) (fun s r hs hr => gO_lt hs hr) hr
  · have := lk_le (p := primN b) (bs := fwdL b) (by omega) (r := k) (by omega)
    omega
  · exact lk_inj (p := primN b) (bs := fwdL b) (by omega) (by omega) (by omega) h
theorem itR_fwd : ∀ k, k ≤ b.length → itR (primN b) (fwdL b) k = rowO b (b.length - k)
  | 0, _ => by rw [Nat.sub_zero, rowO_end]; rfl
  | k + 1, hk => by
    rw [itR, itR_fwd k (by omega), lk_fwd (rowO_le (by omega))]
    unfold gO
    rw [if_neg, plO_rowO (by omega)]
    · rfl
    · intro h
      have := rowO_inj (b := b) (by omega) (Nat.zero_le _) (h.trans rowO_zero.symm)
      omega
theorem wl_fwd (b : List UInt8) : wl (primN b) (fwdL b) = b.length := by
  have hl := fwdL_length b
  have hp := primN_le b
  have h1 := wl_le (p := primN b) (bs := fwdL b) (by omega)
  have h2 := wl_at (p := primN b) (bs := fwdL b) (by omega)
  rw [itR_fwd _ (by omega)] at h2
  have := rowO_inj (b := b) (by omega) (Nat.zero_le _) (h2.trans rowO_zero.symm)
  omega
/-- the walk over the transformed string gives the string. -/
theorem strW_fwd (b : List UInt8) : strW (primN b) (fwdL b) = b := by
  have hl := fwdL_length b
  have hw : wl (primN b) (fwdL b) = (fwdL b).length := by rw [wl_fwd, hl]
  have hsl := strW_length hw
  apply List.ext_getElem
  · rw [hsl, hl]
  intro i h1 h2
  have h3 := strW_get hw (k := b.length - 1 - i) (by omega)
  rw [hl, show b.length - 1 - (b.length - 1 - i) = i by omega, itR_fwd _ (by omega), by8_fwd (rowO_le (by omega)), plO_rowO (by omega)] at h3
  · rw [List.getD_eq_getElem?_getD, List.getElem?_eq_getElem h1, show b.length - (b.length - 1 - i) - 1 = i by omega, List.getD_eq_getElem?_getD, List.getElem?_eq_getElem h2] at h3
    exact h3
  · intro h
    have := rowO_inj (b := b) (by omega) (Nat.zero_le _) (h.trans rowO_zero.symm)
    omega
end
section
variable {p : Nat} {bs : List UInt8}
theorem map_getD (l : List UInt8) : (List.range l.length).map (fun i => l.getD i 0) = l := by
  apply List.ext_getElem
  · simp
  intro i h1 h2
  simp [List.getD, h2]
/-- a complete walk meets each byte once. -/
theorem strW_perm (hp : p ≤ bs.length) (hw : wl p bs = bs.length) : (strW p bs).Perm bs := by
  unfold strW backL backTo
  refine (List.reverse_perm _).trans ?_
  rw [hw]
  rcases Nat.eq_zero_or_pos bs.length with h | h
  · rw [h]
    rw [List.length_eq_zero_iff.1 h]
    exact List.Perm.refl _
  · obtain ⟨m, hm⟩ : ∃ m, bs.length = m + 1 := ⟨bs.length - 1, by omega⟩
    have h1 := perm_of_inj m (fun i => rowI p (itR p bs i)) (fun k hk => ?_) (fun k l hk hl e => ?_)
    · have h2 := h1.map (fun i => bs.getD i 0)
      rw [← hm, map_getD, List.map_map] at h2
      exact h2
    · have := rowI_lt hp (itR_le hp k) (wl_ne (p := p) (bs := bs) (k := k) (by omega))
      omega
    · exact itR_inj hp hw (by omega) (by omega) (rowI_inj (wl_ne (by omega)) (wl_ne (by omega)) e)
theorem fwdL_perm (b : List UInt8) : (fwdL b).Perm b := by
  have hl := fwdL_length b
  have h := strW_perm (p := primN b) (bs := fwdL b) (by have := primN_le b; omega) (by rw [wl_fwd, hl])
  rw [strW_fwd] at h
  exact h.symm
end
end Go.Proofs.Ytoodfmilleodaaa
