/- Plain laws of a complete walk: the rows stand in the order of the suffixes; so what Inverse accepts is the transformed string of its result. -/
import Derived.Test.YtoodfmilleodaaaBo
namespace Go.Proofs.Ytoodfmilleodaaa
open Go.RowKit Go.Proofs
set_option linter.unusedVariables false

theorem rowI_lt_iff' {p k r : Nat} (hk : k ≠ p) (hr : r ≠ p) : rowI p k < rowI p r ↔ k < r := by
  unfold rowI
  split <;> split <;> omega
section
variable {p : Nat} {bs : List UInt8}
/-- the string of a walk. -/
def strW (p : Nat) (bs : List UInt8) : List UInt8 := (backL p bs).reverse
theorem strW_length (hw : wl p bs = bs.length) : (strW p bs).length = bs.length := by unfold strW backL; rw [List.length_reverse, backTo_length, hw]
theorem strW_get (hw : wl p bs = bs.length) {k : Nat} (hk : k < bs.length) : (strW p bs).getD (bs.length - 1 - k) 0 = by8 p bs (itR p bs k) := by
  have hl : (backL p bs).length = bs.length := by unfold backL; rw [backTo_length, hw]
  unfold strW
  rw [List.getD_eq_getElem?_getD, List.getElem?_reverse (by omega), hl, show bs.length - 1 - (bs.length - 1 - k) = k by omega]
  unfold backL backTo
  rw [hw]
  simp [hk]
/-- the suffix of length k. -/
def tailW (p : Nat) (bs : List UInt8) (k : Nat) : List UInt8 := (strW p bs).drop (bs.length - k)
theorem tailW_zero (hw : wl p bs = bs.length) : tailW p bs 0 = [] := by unfold tailW; rw [Nat.sub_zero]; exact List.drop_of_length_le (by rw [strW_length hw]; exact Nat.le_refl _)
theorem tailW_succ (hw : wl p bs = bs.length) {k : Nat} (hk : k < bs.length) : tailW p bs (k + 1) = by8 p bs (itR p bs k) :: tailW p bs k := by
  unfold tailW
  have hl := strW_length hw
  rw [List.drop_eq_getElem_cons (by omega : bs.length - (k + 1) < (strW p bs).length), show bs.length - (k + 1) + 1 = bs.length - k by omega]
  congr 1
  have := strW_get hw hk
  rw [List.getD_eq_getElem?_getD, List.getElem?_eq_getElem (by omega : bs.length - 1 - k < (strW p bs).length)] at this
  rw [← this]
  simp only [Option.getD_some]
  congr 1
  omega
theorem bn_by8 (r : Nat) : bn bs (rowI p r) = (by8 p bs r).toNat := rfl
theorem itR_inj (hp : p ≤ bs.length) (hw : wl p bs = bs.length) {k l : Nat} (hk : k ≤ bs.length) (hl : l ≤ bs.length) (h : itR p bs k = itR p bs l) : k = l := by
  rcases Nat.lt_trichotomy k l with h1 | h1 | h1
  · exact absurd h (itR_fresh hp (m := wl p bs) (fun k hk => wl_ne hk) h1 (by omega))
  · exact h1
  · exact absurd h.symm (itR_fresh hp (m := wl p bs) (fun k hk => wl_ne hk) h1 (by omega))
theorem lk_lt_iff (hp : p ≤ bs.length) {r s : Nat} (hr : r ≤ bs.length) (hs : s ≤ bs.length) (h1 : r ≠ p) (h2 : s ≠ p) : lk p bs r < lk p bs s ↔ (by8 p bs r).toNat < (by8 p bs s).toNat ∨ by8 p bs r = by8 p bs s ∧ r < s := by
  unfold lk
  rw [if_neg h1, if_neg h2, lkN_lt_iff (rowI_lt hp hr h1) (rowI_lt hp hs h2), bn_by8, bn_by8, rowI_lt_iff' h1 h2]
  constructor
  · rintro (h | ⟨h, h'⟩)
    · exact .inl h
    · exact .inr ⟨UInt8.toNat_inj.1 h, h'⟩
  · rintro (h | ⟨h, h'⟩)
    · exact .inl h
    · exact .inr ⟨by rw [h], h'⟩
/-- the rows stand as the suffixes do. -/
theorem rows_less (hp : p ≤ bs.length) (hw : wl p bs = bs.length) : ∀ (k l : Nat), k ≤ bs.length → l ≤ bs.length → (itR p bs k < itR p bs l ↔ less (tailW p bs k) (tailW p bs l) = true)
  | 0, 0, _, _ => by rw [tailW_zero hw]; simp [less_irrefl]
  | 0, l + 1, _, hl => by
    rw [tailW_zero hw, tailW_succ hw (by omega)]
    refine ⟨fun _ => nil_less _ _, fun _ => ?_⟩
    have h1 := lk_pos hp (itR_le hp l) (wl_ne (by omega : l < wl p bs))
    show 0 < lk p bs (itR p bs l)
    omega
  | k + 1, 0, hk, _ => by
    rw [tailW_zero hw, tailW_succ hw (by omega), less_nil]
    refine ⟨fun h => ?_, fun h => by cases h⟩
    have : itR p bs 0 = 0 := rfl
    omega
  | k + 1, l + 1, hk, hl => by
    rw [tailW_succ hw (by omega), tailW_succ hw (by omega), less_cons]
    show lk p bs (itR p bs k) < lk p bs (itR p bs l) ↔ _
    rw [lk_lt_iff hp (itR_le hp k) (itR_le hp l) (wl_ne (by omega)) (wl_ne (by omega)), rows_less hp hw k l (by omega) (by omega)]
theorem itR_surj (hp : p ≤ bs.length) (hw : wl p bs = bs.length) {r : Nat} (hr : r ≤ bs.length) : ∃ k, k ≤ bs.length ∧ itR p bs k = r := by
  have hperm : permErr ((List.range (bs.length + 1)).map fun k => (itR p bs k : Int)) = 0 := by
    rw [permErr_zero_iff]
    constructor
    · intro z hz
      obtain ⟨k, _, rfl⟩ := List.mem_map.1 hz
      have := itR_le hp k
      simp
      omega
    · have h := itR_nodup hp (m := wl p bs) (fun k hk => wl_ne hk)
      rw [hw] at h
      rw [List.Nodup, List.pairwise_map] at h ⊢
      exact h.imp fun hne e => hne (by omega)
  have := perm_all_mem hperm (j := r) (by simp; omega)
  obtain ⟨k, hk, he⟩ := List.mem_map.1 this
  exact ⟨k, by simp at hk; omega, by omega⟩
theorem itIx_le (hp : p ≤ bs.length) (hw : wl p bs = bs.length) {r : Nat} (hr : r ≤ bs.length) : itIx p bs r ≤ bs.length ∧ itR p bs (itIx p bs r) = r := by
  obtain ⟨k, hk, rfl⟩ := itR_surj hp hw hr
  rw [itIx_at hp (by omega)]
  exact ⟨hk, rfl⟩
/-- the place of a row. -/
def plW (p : Nat) (bs : List UInt8) (r : Nat) : Nat := bs.length - itIx p bs r
def ordW (p : Nat) (bs : List UInt8) : List Int := (List.range (bs.length + 1)).map fun r => (plW p bs r : Int)
theorem ordW_sort (hp : p ≤ bs.length) (hw : wl p bs = bs.length) : ordW p bs = sortL (strW p bs) := by
  have hsl := strW_length hw
  have hlen : (ordW p bs).length = bs.length + 1 := by simp [ordW]
  refine order_unique (by rw [hlen, hsl]) ?_ ?_
  · rw [permErr_zero_iff, hlen]
    constructor
    · intro z hz
      obtain ⟨k, _, rfl⟩ := List.mem_map.1 hz
      unfold plW
      omega
    · unfold ordW
      rw [List.Nodup, List.pairwise_map]
      refine List.Pairwise.imp_of_mem (R := fun a b => a ≠ b) ?_ List.nodup_range
      intro a b ha hb hne e
      have h1 := itIx_le hp hw (r := a) (by simp at ha; omega)
      have h2 := itIx_le hp hw (r := b) (by simp at hb; omega)
      unfold plW at e
      have h3 : itIx p bs a = itIx p bs b := by omega
      exact hne (by rw [← h1.2, ← h2.2, h3])
  · unfold ordW
    rw [List.pairwise_map]
    refine List.Pairwise.imp_of_mem (R := fun a b => a < b) ?_ List.pairwise_lt_range
    intro a b ha hb hlt
    have h1 := itIx_le hp hw (r := a) (by simp at ha; omega)
    have h2 := itIx_le hp hw (r := b) (by simp at hb; omega)
    have := (rows_less hp hw _ _ h1.1 h2.1).1 (by rw [h1.2, h2.2]; exact hlt)
    unfold before sfx plW
    rw [Int.toNat_natCast, Int.toNat_natCast]
    exact this
theorem gi_ordW {r : Nat} (hr : r ≤ bs.length) : gi (ordW p bs) r = (plW p bs r : Int) := by
  have : r < bs.length + 1 := by omega
  simp [gi, ordW, List.getD, this]
theorem plW_p (hp : p ≤ bs.length) (hw : wl p bs = bs.length) : plW p bs p = 0 := by
  have h := wl_at hp
  have := itIx_at hp (Nat.le_refl (wl p bs))
  rw [h] at this
  unfold plW
  omega
theorem plW_pos (hp : p ≤ bs.length) (hw : wl p bs = bs.length) {r : Nat} (hr : r ≤ bs.length) (hne : r ≠ p) : 0 < plW p bs r ∧ (strW p bs).getD (plW p bs r - 1) 0 = by8 p bs r := by
  have h1 := itIx_le hp hw hr
  have h2 : itIx p bs r ≠ bs.length := fun e => hne (by have := wl_at hp; rw [← h1.2, e, ← hw]; exact this)
  have h3 : itIx p bs r < bs.length := by omega
  have h4 := strW_get hw h3
  rw [h1.2] at h4
  unfold plW
  rw [show bs.length - itIx p bs r - 1 = bs.length - 1 - itIx p bs r by omega]
  exact ⟨by omega, h4⟩
theorem fwdTo_strW (hp : p ≤ bs.length) (hw : wl p bs = bs.length) : ∀ r, r ≤ bs.length + 1 → fwdTo (strW p bs) r = bs.take (if r ≤ p then r else r - 1)
  | 0, _ => by simp [fwdTo]
  | r + 1, hr => by
    rw [fwdTo, fwdTo_strW hp hw r (by omega), ← ordW_sort hp hw, gi_ordW (by omega)]
    by_cases h : r = p
    · subst h
      rw [plW_p hp hw, if_pos (Nat.le_refl r), if_neg (by omega : ¬ (r + 1 ≤ r)), Nat.add_sub_cancel]
      simp
    · obtain ⟨h1, h2⟩ := plW_pos hp hw (by omega : r ≤ bs.length) h
      have hi := rowI_lt hp (by omega : r ≤ bs.length) h
      have e1 : (if r ≤ p then r else r - 1) = rowI p r := by unfold rowI; split <;> split <;> omega
      have e2 : (if r + 1 ≤ p then r + 1 else r + 1 - 1) = rowI p r + 1 := by unfold rowI; split <;> split <;> omega
      rw [e1, e2, if_pos (by omega : (0 : Int) < (plW p bs r : Int)), Int.toNat_natCast, h2, List.take_succ_eq_append_getElem hi]
      unfold by8
      simp [List.getD, hi]
theorem fwdL_strW (hp : p ≤ bs.length) (hw : wl p bs = bs.length) : fwdL (strW p bs) = bs ∧ primN (strW p bs) = p := by
  constructor
  · unfold fwdL
    rw [strW_length hw, fwdTo_strW hp hw _ (Nat.le_refl _), if_neg (by omega), Nat.add_sub_cancel, List.take_length]
  · refine (prim_only (by rw [strW_length hw]; exact hp) ?_).symm
    rw [← ordW_sort hp hw, gi_ordW hp, plW_p hp hw]
    rfl
end
end Go.Proofs.Ytoodfmilleodaaa
