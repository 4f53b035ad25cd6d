/- Differences and columns, plainly: what delta and columns compute. No program in sight. -/
import Derived.Test.YtckkmafppfcecaaGreatDoorKit
namespace Go.Proofs.YtckkmafppfcecaaGreatDoor
open Go.RowKit Go.Proofs
set_option linter.unusedVariables false
set_option linter.unusedSimpArgs false

def bA (bs : List UInt8) (i : Nat) : UInt8 := bs.getD i 0
/-- differences. -/
def dfF (w : Nat) (bs : List UInt8) (i : Nat) : UInt8 := if i < w then bA bs i else bA bs i - bA bs (i - w)
/-- sums. -/
def dfI (w : Nat) (bs : List UInt8) (i : Nat) : UInt8 := if h : i < w ∨ w = 0 then bA bs i else bA bs i + dfI w bs (i - w)
  termination_by i
  decreasing_by omega
def deltaF (w : Nat) (bs : List UInt8) : List UInt8 := (List.range bs.length).map (dfF w bs)
def deltaI (w : Nat) (bs : List UInt8) : List UInt8 := (List.range bs.length).map (dfI w bs)
theorem dfI_lo {w i : Nat} {bs : List UInt8} (h : i < w) : dfI w bs i = bA bs i := by rw [dfI, dif_pos (.inl h)]
theorem dfI_hi {w i : Nat} {bs : List UInt8} (h : ¬ i < w) (h1 : 1 ≤ w) : dfI w bs i = bA bs i + dfI w bs (i - w) := by rw [dfI, dif_neg (by omega)]
theorem deltaF_length (w : Nat) (bs : List UInt8) : (deltaF w bs).length = bs.length := by simp [deltaF]
theorem deltaI_length (w : Nat) (bs : List UInt8) : (deltaI w bs).length = bs.length := by simp [deltaI]
theorem deltaF_at {w i : Nat} {bs : List UInt8} (h : i < bs.length) : bA (deltaF w bs) i = dfF w bs i := by
  unfold deltaF
  generalize dfF w bs = f
  simp [bA, List.getD, h]
theorem deltaI_at {w i : Nat} {bs : List UInt8} (h : i < bs.length) : bA (deltaI w bs) i = dfI w bs i := by
  unfold deltaI
  generalize dfI w bs = f
  simp [bA, List.getD, h]
theorem list_ext_bA {xs ys : List UInt8} (hl : xs.length = ys.length) (h : ∀ i, i < ys.length → bA xs i = bA ys i) : xs = ys := by
  apply List.ext_getElem hl
  intro i h1 h2
  have := h i h2
  unfold bA at this
  rw [List.getD_eq_getElem?_getD, List.getD_eq_getElem?_getD, List.getElem?_eq_getElem h1, List.getElem?_eq_getElem h2] at this
  exact this
/-- sums of differences are the bytes. -/
theorem delta_back {w : Nat} (hw : 1 ≤ w) (bs : List UInt8) : deltaI w (deltaF w bs) = bs := by
  have key : ∀ i, i < bs.length → dfI w (deltaF w bs) i = bA bs i := by
    intro i
    induction i using Nat.strongRecOn with
    | _ i ih =>
      intro hi
      by_cases h : i < w
      · rw [dfI_lo h, deltaF_at hi, dfF, if_pos h]
      · rw [dfI_hi h hw, ih (i - w) (by omega) (by omega), deltaF_at hi, dfF, if_neg h]
        rw [UInt8.sub_add_cancel]
  refine list_ext_bA (by rw [deltaI_length, deltaF_length]) fun i hi => ?_
  rw [deltaI_at (by rw [deltaF_length]; exact hi)]
  exact key i hi
theorem delta_forth {w : Nat} (hw : 1 ≤ w) (bs : List UInt8) : deltaF w (deltaI w bs) = bs := by
  refine list_ext_bA (by rw [deltaF_length, deltaI_length]) fun i hi => ?_
  rw [deltaF_at (by rw [deltaI_length]; exact hi), dfF]
  by_cases h : i < w
  · rw [if_pos h, deltaI_at hi, dfI_lo h]
  · rw [if_neg h, deltaI_at hi, deltaI_at (by omega), dfI_hi h hw, UInt8.add_sub_cancel]
/-- what limits answer. -/
def limD (n : Nat) (width : Int) : Int := if 65536 < n then 5 else if width < 1 ∨ 64 < width then 2 else 0

/-- the places i, i + w, .. below n. -/
def upB (n w i : Nat) : List Nat := if h : i < n ∧ 0 < w then i :: upB n w (i + w) else []
  termination_by n - i
  decreasing_by omega
theorem upB_more {n w i : Nat} (h : i < n) (hw : 0 < w) : upB n w i = i :: upB n w (i + w) := by rw [upB, dif_pos ⟨h, hw⟩]
theorem upB_end {n w i : Nat} (h : n ≤ i) : upB n w i = [] := by rw [upB, dif_neg (by omega)]
/-- the places of columns c, c + 1, .. below m. -/
def colFrom (n w m c : Nat) : List Nat := (List.range' c (m - c)).flatMap (upB n w)
def colL (n w : Nat) : List Nat := colFrom n w w 0
theorem colFrom_more {n w m c : Nat} (h : c < m) : colFrom n w m c = upB n w c ++ colFrom n w m (c + 1) := by
  unfold colFrom
  obtain ⟨k, hk⟩ : ∃ k, m - c = k + 1 := ⟨m - c - 1, by omega⟩
  rw [hk, List.range'_succ, List.flatMap_cons, show m - (c + 1) = k by omega]
theorem colFrom_end {n w m c : Nat} (h : m ≤ c) : colFrom n w m c = [] := by unfold colFrom; rw [show m - c = 0 by omega]; rfl
theorem colFrom_high {n w m : Nat} : ∀ (d c : Nat), m - c = d → n ≤ c → colFrom n w m c = []
  | 0, c, hd, h => colFrom_end (by omega)
  | d + 1, c, hd, h => by rw [colFrom_more (by omega), upB_end h, List.nil_append]; exact colFrom_high d (c + 1) (by omega) (by omega)
theorem colFrom_min {n w : Nat} : ∀ (d c : Nat), w - c = d → colFrom n w w c = colFrom n w (min w n) c
  | 0, c, hd => by rw [colFrom_end (by omega), colFrom_end (by omega)]
  | d + 1, c, hd => by
    by_cases h : c < n
    · rw [colFrom_more (m := w) (by omega), colFrom_more (m := min w n) (by omega), colFrom_min d (c + 1) (by omega)]
    · rw [colFrom_high (d + 1) c hd (by omega), colFrom_end (by omega)]
theorem colL_min (n w : Nat) : colL n w = colFrom n w (min w n) 0 := colFrom_min w 0 rfl
theorem mem_upB {n w : Nat} : ∀ (d i x : Nat), n - i = d → x ∈ upB n w i → i ≤ x ∧ x < n ∧ ∃ q, x = i + q * w := by
  intro d
  induction d using Nat.strongRecOn with
  | _ d ih =>
    intro i x hd hx
    by_cases h : i < n ∧ 0 < w
    · rw [upB_more h.1 h.2, List.mem_cons] at hx
      rcases hx with rfl | hx
      · exact ⟨Nat.le_refl _, h.1, 0, by simp⟩
      · obtain ⟨h1, h2, q, h3⟩ := ih (n - (i + w)) (by omega) (i + w) x rfl hx
        exact ⟨by omega, h2, q + 1, by rw [h3, Nat.succ_mul]; omega⟩
    · rw [upB, dif_neg h] at hx
      cases hx
theorem upB_mem {n w : Nat} (hw : 0 < w) : ∀ (q i : Nat), i + q * w < n → i + q * w ∈ upB n w i
  | 0, i, h => by rw [upB_more (by omega) hw]; simp
  | q + 1, i, h => by
    have e : i + (q + 1) * w = (i + w) + q * w := by rw [Nat.succ_mul]; omega
    have : 0 ≤ q * w := Nat.zero_le _
    rw [upB_more (by omega) hw, e]
    exact List.mem_cons_of_mem _ (upB_mem hw q (i + w) (by omega))
theorem upB_nodup {n w : Nat} : ∀ (d i : Nat), n - i = d → (upB n w i).Nodup := by
  intro d
  induction d using Nat.strongRecOn with
  | _ d ih =>
    intro i hd
    by_cases h : i < n ∧ 0 < w
    · rw [upB_more h.1 h.2, List.nodup_cons]
      refine ⟨fun hm => ?_, ih _ (by omega) (i + w) rfl⟩
      have := (mem_upB _ _ _ rfl hm).1
      omega
    · rw [upB, dif_neg h]; exact List.nodup_nil
theorem mem_colFrom {n w : Nat} {m c x : Nat} (h : x ∈ colFrom n w m c) : ∃ j, c ≤ j ∧ j < m ∧ x ∈ upB n w j := by
  unfold colFrom at h
  obtain ⟨j, hj, hx⟩ := List.mem_flatMap.1 h
  rw [List.mem_range'_1] at hj
  exact ⟨j, hj.1, by omega, hx⟩
theorem mem_colL {n w x : Nat} (hw : 0 < w) : x ∈ colL n w ↔ x < n := by
  constructor
  · intro h
    obtain ⟨j, -, -, hx⟩ := mem_colFrom h
    exact (mem_upB _ _ _ rfl hx).2.1
  · intro h
    unfold colL colFrom
    refine List.mem_flatMap.2 ⟨x % w, ?_, ?_⟩
    · rw [List.mem_range'_1]; have := Nat.mod_lt x hw; omega
    · have e : x % w + x / w * w = x := by rw [Nat.mul_comm]; exact Nat.mod_add_div x w
      have := upB_mem (n := n) hw (x / w) (x % w) (by omega)
      rwa [e] at this
theorem up_mod {n w j x : Nat} (hj : j < w) (h : x ∈ upB n w j) : x % w = j := by
  obtain ⟨-, -, q, rfl⟩ := mem_upB _ _ _ rfl h
  rw [Nat.add_mul_mod_self_right, Nat.mod_eq_of_lt hj]
theorem colFrom_nodup {n w : Nat} : ∀ (d c : Nat), w - c = d → (colFrom n w w c).Nodup
  | 0, c, hd => by rw [colFrom_end (by omega)]; exact List.nodup_nil
  | d + 1, c, hd => by
    rw [colFrom_more (by omega), List.nodup_append]
    refine ⟨upB_nodup _ _ rfl, colFrom_nodup d (c + 1) (by omega), fun x hx y hy he => ?_⟩
    subst he
    obtain ⟨j, hj, hjw, hxj⟩ := mem_colFrom hy
    have h1 := up_mod (by omega) hx
    have h2 := up_mod hjw hxj
    omega
theorem colL_nodup (n w : Nat) : (colL n w).Nodup := colFrom_nodup w 0 rfl
theorem colL_length {n w : Nat} (hw : 0 < w) : (colL n w).length = n := by
  have hp : (colL n w).Perm (List.range n) := (List.perm_ext_iff_of_nodup (colL_nodup n w) List.nodup_range).2 fun x => by rw [mem_colL hw, List.mem_range]
  rw [hp.length_eq, List.length_range]
def oN (l : List Nat) (k : Nat) : Nat := l.getD k 0
theorem oN_lt {n w k : Nat} (hw : 0 < w) (hk : k < n) : oN (colL n w) k < n := by
  have hl := colL_length (n := n) hw
  have : oN (colL n w) k ∈ colL n w := by
    unfold oN
    rw [List.getD_eq_getElem?_getD, List.getElem?_eq_getElem (by omega)]
    exact List.getElem_mem _
  exact (mem_colL hw).1 this
theorem oN_inj {n w j k : Nat} (hw : 0 < w) (hj : j < n) (hk : k < n) (h : oN (colL n w) j = oN (colL n w) k) : j = k := by
  have hl := colL_length (n := n) hw
  unfold oN at h
  rw [List.getD_eq_getElem?_getD, List.getD_eq_getElem?_getD, List.getElem?_eq_getElem (by omega), List.getElem?_eq_getElem (by omega)] at h
  rcases Nat.lt_trichotomy j k with h1 | h1 | h1
  · exact absurd h (List.pairwise_iff_getElem.1 (colL_nodup n w) j k (by omega) (by omega) h1)
  · exact h1
  · exact absurd h.symm (List.pairwise_iff_getElem.1 (colL_nodup n w) k j (by omega) (by omega) h1)
theorem oN_onto {n w x : Nat} (hw : 0 < w) (hx : x < n) : ∃ k, k < n ∧ oN (colL n w) k = x := by
  have hl := colL_length (n := n) hw
  obtain ⟨k, hk, he⟩ := List.getElem_of_mem ((mem_colL hw).2 hx)
  exact ⟨k, by omega, by unfold oN; rw [List.getD_eq_getElem?_getD, List.getElem?_eq_getElem hk]; exact he⟩
def columnsF (w : Nat) (bs : List UInt8) : List UInt8 := (colL bs.length w).map (bA bs)
theorem columnsF_length {w : Nat} (hw : 0 < w) (bs : List UInt8) : (columnsF w bs).length = bs.length := by unfold columnsF; rw [List.length_map, colL_length hw]
theorem columnsF_at {w k : Nat} {bs : List UInt8} (hw : 0 < w) (hk : k < bs.length) : bA (columnsF w bs) k = bA bs (oN (colL bs.length w) k) := by
  have hl := colL_length (n := bs.length) hw
  unfold columnsF
  show ((colL bs.length w).map (bA bs)).getD k 0 = _
  unfold oN
  rw [List.getD_eq_getElem?_getD, List.getElem?_map, List.getD_eq_getElem?_getD, List.getElem?_eq_getElem (by omega)]
  rfl
/-- k bytes laid in the order of the columns. -/
def scat (ord : List Nat) (bs : List UInt8) : Nat → List UInt8
  | 0 => List.replicate bs.length 0
  | k + 1 => (scat ord bs k).set (oN ord k) (bA bs k)
theorem scat_length (ord : List Nat) (bs : List UInt8) : ∀ k, (scat ord bs k).length = bs.length
  | 0 => by simp [scat]
  | k + 1 => by rw [scat, List.length_set]; exact scat_length ord bs k
def columnsI (w : Nat) (bs : List UInt8) : List UInt8 := scat (colL bs.length w) bs bs.length
theorem columnsI_length (w : Nat) (bs : List UInt8) : (columnsI w bs).length = bs.length := scat_length _ _ _
theorem bA_set {xs : List UInt8} {i j : Nat} {v : UInt8} (hi : i < xs.length) : bA (xs.set i v) j = if i = j then v else bA xs j := by
  unfold bA
  rw [List.getD_eq_getElem?_getD, List.getElem?_set, List.getD_eq_getElem?_getD]
  by_cases h : i = j
  · subst h; rw [if_pos rfl, if_pos rfl, if_pos hi]; rfl
  · rw [if_neg h, if_neg h]
theorem scat_at {w : Nat} (hw : 0 < w) (bs : List UInt8) : ∀ (k j : Nat), k ≤ bs.length → j < k → bA (scat (colL bs.length w) bs k) (oN (colL bs.length w) j) = bA bs j
  | 0, j, _, hj => absurd hj (Nat.not_lt_zero _)
  | k + 1, j, hk, hj => by
    rw [scat, bA_set (by rw [scat_length]; exact oN_lt hw (by omega))]
    by_cases h : oN (colL bs.length w) k = oN (colL bs.length w) j
    · rw [if_pos h, oN_inj hw (by omega) (by omega) h]
    · rw [if_neg h]
      refine scat_at hw bs k j (by omega) ?_
      rcases Nat.lt_or_ge j k with h1 | h1
      · exact h1
      · obtain rfl : j = k := by omega
        exact absurd rfl h
theorem columns_back {w : Nat} (hw : 0 < w) (bs : List UInt8) : columnsI w (columnsF w bs) = bs := by
  refine list_ext_bA (by rw [columnsI_length, columnsF_length hw]) fun i hi => ?_
  obtain ⟨k, hk, rfl⟩ := oN_onto hw hi
  have h := scat_at hw (columnsF w bs) bs.length k (by rw [columnsF_length hw]; omega) hk
  unfold columnsI
  rw [columnsF_length hw] at h ⊢
  rw [h, columnsF_at hw hk]
end Go.Proofs.YtckkmafppfcecaaGreatDoor
