/- Plain law: a word that ends with a byte of its own, repeated, is transformed to few runs. -/
import Derived.Test.YtoodfmilleodaaaCf
namespace Go.Proofs.Ytoodfmilleodaaa
open Go.RowKit Go.Proofs
set_option linter.unusedVariables false

def repL (u : List UInt8) : Nat → List UInt8
  | 0 => []
  | m + 1 => u ++ repL u m
section
variable {u : List UInt8}
theorem repL_length (u : List UInt8) : ∀ m, (repL u m).length = m * u.length
  | 0 => by simp [repL]
  | m + 1 => by rw [repL, List.length_append, repL_length u m, Nat.succ_mul, Nat.add_comm]
theorem repL_drop (r : Nat) : ∀ q m, q ≤ m → (repL u m).drop (q * u.length + r) = (repL u (m - q)).drop r
  | 0, m, _ => by simp
  | q + 1, 0, h => by omega
  | q + 1, m + 1, h => by
    rw [repL, show (q + 1) * u.length + r = u.length + (q * u.length + r) by rw [Nat.succ_mul]; omega, List.drop_append, List.drop_of_length_le (by omega), List.nil_append, Nat.add_sub_cancel_left, repL_drop r q m (by omega), show m + 1 - (q + 1) = m - q by omega]
theorem repL_sfx {q r m : Nat} (hq : q < m) (hr : r ≤ u.length) : (repL u m).drop (q * u.length + r) = u.drop r ++ repL u (m - q - 1) := by
  obtain ⟨d, hd⟩ : ∃ d, m - q = d + 1 := ⟨m - q - 1, by omega⟩
  rw [repL_drop r q m (by omega), hd, repL, List.drop_append, show r - u.length = 0 by omega, List.drop_zero, Nat.add_sub_cancel]
theorem repL_get : ∀ m i, i < m * u.length → (repL u m).getD i 0 = u.getD (i % u.length) 0
  | 0, i, h => by omega
  | m + 1, i, h => by
    rw [repL]
    rw [Nat.succ_mul] at h
    rcases Nat.lt_or_ge i u.length with h1 | h1
    · rw [List.getD_eq_getElem?_getD, List.getElem?_append_left h1, ← List.getD_eq_getElem?_getD, Nat.mod_eq_of_lt h1]
    · rw [List.getD_eq_getElem?_getD, List.getElem?_append_right h1, ← List.getD_eq_getElem?_getD, repL_get m (i - u.length) (by omega), Nat.mod_eq_sub_mod h1]
end
theorem sep_less : ∀ (a a' s s' : List UInt8), (∀ x ∈ a, x ≠ 0) → (∀ x ∈ a', x ≠ 0) → a.length ≠ a'.length → (less (a ++ 0 :: s) (a' ++ 0 :: s') = true ↔ less (a ++ [0]) (a' ++ [0]) = true)
  | [], [], s, s', _, _, h => absurd rfl h
  | [], y :: a', s, s', _, h2, _ => by
    have hy : y.toNat ≠ 0 := fun e => h2 y (by simp) (UInt8.toNat_inj.1 e)
    have h0 : (0 : UInt8).toNat = 0 := rfl
    simp only [List.nil_append, List.cons_append]
    rw [less_cons, less_cons]
    constructor
    · intro _; exact .inl (by omega)
    · intro _; exact .inl (by omega)
  | x :: a, [], s, s', h1, _, _ => by
    have hx : x ≠ 0 := h1 x (by simp)
    have h0 : (0 : UInt8).toNat = 0 := rfl
    simp only [List.nil_append, List.cons_append]
    rw [less_cons, less_cons]
    constructor
    · rintro (h | h)
      · omega
      · exact absurd h.1 hx
    · rintro (h | h)
      · omega
      · exact absurd h.1 hx
  | x :: a, y :: a', s, s', h1, h2, h => by
    simp only [List.cons_append]
    rw [less_cons, less_cons, sep_less a a' s s' (fun z hz => h1 z (by simp [hz])) (fun z hz => h2 z (by simp [hz])) (by simpa using h)]
theorem countP_lt' {p q : Nat → Bool} : ∀ l : List Nat, (∀ x ∈ l, p x = true → q x = true) → (∃ a ∈ l, q a = true ∧ p a = false) → l.countP p < l.countP q
  | [], _, ⟨a, ha, _⟩ => by simp at ha
  | x :: l, h, ⟨a, ha, h1, h2⟩ => by
    rw [List.countP_cons, List.countP_cons]
    have hm : l.countP p ≤ l.countP q := List.countP_mono_left fun y hy => h y (by simp [hy])
    rcases List.mem_cons.1 ha with rfl | ha
    · rw [h1, h2]; simp; omega
    · have := countP_lt' l (fun y hy => h y (by simp [hy])) ⟨a, ha, h1, h2⟩
      have hx := h x (by simp)
      cases hp : p x with
      | true => rw [hx hp]; omega
      | false => cases q x <;> simp <;> omega
/-- how many places of the word have lesser rests. -/
def cR (u : List UInt8) (r : Nat) : Nat := (List.range u.length).countP fun k => less (u.drop k) (u.drop r)
theorem cR_lt {u : List UInt8} {r : Nat} (hr : r < u.length) : cR u r < u.length := by
  have := countP_lt' (p := fun k => less (u.drop k) (u.drop r)) (q := fun _ => true) (List.range u.length) (fun _ _ _ => rfl) ⟨r, by simpa using hr, rfl, less_irrefl _⟩
  unfold cR
  simpa using this
theorem cR_mono {u : List UInt8} {r s : Nat} (hr : r < u.length) (h : less (u.drop r) (u.drop s) = true) : cR u r < cR u s :=
  countP_lt' (List.range u.length) (fun k _ hk => less_trans hk h) ⟨r, by simpa using hr, h, less_irrefl _⟩
theorem pred_mod {z L : Nat} (hz : 0 < z) (hL : 0 < L) : (z - 1) % L = if z % L = 0 then L - 1 else z % L - 1 := by
  have h := Nat.div_add_mod z L
  have hlt := Nat.mod_lt z hL
  by_cases h0 : z % L = 0
  · rw [if_pos h0]
    obtain ⟨q, hq⟩ : ∃ q, z / L = q + 1 := ⟨z / L - 1, by
      rcases Nat.eq_zero_or_pos (z / L) with h1 | h1
      · rw [h1, Nat.mul_zero] at h; omega
      · omega⟩
    rw [hq, Nat.mul_succ] at h
    rw [show z - 1 = L * q + (L - 1) by omega, Nat.mul_add_mod, Nat.mod_eq_of_lt (by omega)]
  · rw [if_neg h0]
    rw [show z - 1 = L * (z / L) + (z % L - 1) by omega, Nat.mul_add_mod, Nat.mod_eq_of_lt (by omega)]
section
variable {v : List UInt8} {m : Nat}
def grp (u : List UInt8) (n z : Nat) : Nat := if z = n then 0 else 1 + cR u (z % u.length)
theorem grp_le {u : List UInt8} (hu : 0 < u.length) (n z : Nat) : grp u n z ≤ u.length := by
  unfold grp
  split
  · omega
  · have := cR_lt (u := u) (Nat.mod_lt z hu); omega
theorem rep_less (hv : ∀ x ∈ v, x ≠ 0) {y z : Nat} (hy : y < m * (v ++ [0]).length) (hz : z < m * (v ++ [0]).length) (hne : y % (v ++ [0]).length ≠ z % (v ++ [0]).length) (h : less ((repL (v ++ [0]) m).drop y) ((repL (v ++ [0]) m).drop z) = true) :
    less ((v ++ [0]).drop (y % (v ++ [0]).length)) ((v ++ [0]).drop (z % (v ++ [0]).length)) = true := by
  have hL : 0 < (v ++ [(0 : UInt8)]).length := by simp
  have hLv : (v ++ [(0 : UInt8)]).length = v.length + 1 := by simp
  have ey := Nat.div_add_mod y (v ++ [(0 : UInt8)]).length
  have ez := Nat.div_add_mod z (v ++ [(0 : UInt8)]).length
  have ly := Nat.mod_lt y hL
  have lz := Nat.mod_lt z hL
  have qy : y / (v ++ [(0 : UInt8)]).length < m := (Nat.div_lt_iff_lt_mul hL).2 hy
  have qz : z / (v ++ [(0 : UInt8)]).length < m := (Nat.div_lt_iff_lt_mul hL).2 hz
  have sy := repL_sfx (u := v ++ [0]) (r := y % (v ++ [(0 : UInt8)]).length) qy (by omega)
  have sz := repL_sfx (u := v ++ [0]) (r := z % (v ++ [(0 : UInt8)]).length) qz (by omega)
  rw [Nat.mul_comm, ey] at sy
  rw [Nat.mul_comm, ez] at sz
  rw [sy, sz] at h
  obtain ⟨r, hr⟩ : ∃ r, r = y % (v ++ [(0 : UInt8)]).length := ⟨_, rfl⟩
  obtain ⟨s, hs⟩ : ∃ s, s = z % (v ++ [(0 : UInt8)]).length := ⟨_, rfl⟩
  rw [← hr] at h hne ly ⊢
  rw [← hs] at h hne lz ⊢
  have dr : (v ++ [(0 : UInt8)]).drop r = v.drop r ++ [0] := by rw [List.drop_append, show r - v.length = 0 by omega, List.drop_zero]
  have ds : (v ++ [(0 : UInt8)]).drop s = v.drop s ++ [0] := by rw [List.drop_append, show s - v.length = 0 by omega, List.drop_zero]
  rw [dr, ds, List.append_assoc, List.append_assoc, List.singleton_append, List.singleton_append, sep_less _ _ _ _ (fun x hx => hv x (List.mem_of_mem_drop hx)) (fun x hx => hv x (List.mem_of_mem_drop hx)) (by rw [List.length_drop, List.length_drop]; omega)] at h
  rw [dr, ds]
  exact h
theorem grp_row (hv : ∀ x ∈ v, x ≠ 0) {b : List UInt8} (hb : b = repL (v ++ [0]) m) {y z : Nat} (hy : y ≤ b.length) (hz : z ≤ b.length) (h : rowO b y < rowO b z) :
    grp (v ++ [0]) b.length y < grp (v ++ [0]) b.length z ∨ (y ≠ b.length ∧ z ≠ b.length ∧ y % (v ++ [0]).length = z % (v ++ [0]).length) := by
  have hL : 0 < (v ++ [(0 : UInt8)]).length := by simp
  have hl : b.length = m * (v ++ [(0 : UInt8)]).length := by rw [hb, repL_length]
  have hzn : z ≠ b.length := fun e => by rw [e, rowO_end] at h; omega
  by_cases hyn : y = b.length
  · left
    unfold grp
    rw [if_pos hyn, if_neg hzn]
    omega
  · by_cases hr : y % (v ++ [(0 : UInt8)]).length = z % (v ++ [(0 : UInt8)]).length
    · exact .inr ⟨hyn, hzn, hr⟩
    · left
      have h2 := rowO_asc hy hz h
      rw [hb] at h2
      have h3 := rep_less hv (m := m) (by omega) (by omega) hr h2
      have := cR_mono (Nat.mod_lt y hL) h3
      unfold grp
      rw [if_neg hyn, if_neg hzn]
      omega
/-- runs among the first k + 1 bytes. -/
def rn (x : List UInt8) : Nat → Nat
  | 0 => 1
  | k + 1 => rn x k + if x.getD (k + 1) 0 ≠ x.getD k 0 then 1 else 0
theorem rn_le (x : List UInt8) : ∀ k, rn x k ≤ k + 1
  | 0 => Nat.le_refl _
  | k + 1 => by rw [rn]; have := rn_le x k; split <;> omega
theorem fwdL_get {b : List UInt8} {k : Nat} (hk : k < b.length) : (fwdL b).getD k 0 = b.getD (plO b (rowN (primN b) k) - 1) 0 :=
  (fwdTo_get b (b.length + 1) (Nat.le_refl _)).2 k (by have := primN_le b; unfold idxR; split <;> omega)
theorem rowN_row {b : List UInt8} {k : Nat} (hk : k < b.length) : rowN (primN b) k ≤ b.length ∧ rowN (primN b) k ≠ primN b := by
  unfold rowN
  split <;> omega
theorem runs_grp (hv : ∀ x ∈ v, x ≠ 0) {b : List UInt8} (hb : b = repL (v ++ [0]) m) : ∀ k, k < b.length → rn (fwdL b) k ≤ 1 + grp (v ++ [0]) b.length (plO b (rowN (primN b) k))
  | 0, h => by rw [rn]; omega
  | k + 1, h => by
    have hL : 0 < (v ++ [(0 : UInt8)]).length := by simp
    have hl : b.length = m * (v ++ [(0 : UInt8)]).length := by rw [hb, repL_length]
    have ih := runs_grp hv hb k (by omega)
    rw [rn]
    obtain ⟨a1, a2⟩ := rowN_row (b := b) (k := k) (by omega)
    obtain ⟨b1, b2⟩ := rowN_row (b := b) (k := k + 1) h
    have hlt : rowN (primN b) k < rowN (primN b) (k + 1) := by unfold rowN; split <;> split <;> omega
    have p1 := plO_pos a1 a2
    have p2 := plO_pos b1 b2
    have l1 := plO_le a1
    have l2 := plO_le b1
    rw [fwdL_get h, fwdL_get (by omega)]
    have hrow : rowO b (plO b (rowN (primN b) k)) < rowO b (plO b (rowN (primN b) (k + 1))) := by rw [rowO_plO a1, rowO_plO b1]; exact hlt
    have g := grp_row hv hb l1 l2 hrow
    obtain ⟨y, hy⟩ : ∃ y, y = plO b (rowN (primN b) k) := ⟨_, rfl⟩
    obtain ⟨z, hz⟩ : ∃ z, z = plO b (rowN (primN b) (k + 1)) := ⟨_, rfl⟩
    rw [← hy] at g ih p1 l1 ⊢
    rw [← hz] at g p2 l2 ⊢
    rcases g with g | ⟨g1, g2, g3⟩
    · split <;> omega
    · have e : b.getD (z - 1) 0 = b.getD (y - 1) 0 := by
        rw [hb, repL_get m (z - 1) (by omega), repL_get m (y - 1) (by omega), pred_mod p1 hL, pred_mod p2 hL, g3]
      rw [if_neg (fun hh => hh e)]
      have : grp (v ++ [0]) b.length y = grp (v ++ [0]) b.length z := by
        unfold grp
        rw [if_neg g1, if_neg g2, g3]
      omega
theorem runs_few (hv : ∀ x ∈ v, x ≠ 0) {b : List UInt8} (hb : b = repL (v ++ [0]) m) (hn : 0 < b.length) : rn (fwdL b) (b.length - 1) ≤ 2 * (v.length + 1) := by
  have h1 := runs_grp hv hb (b.length - 1) (by omega)
  have h2 := grp_le (u := v ++ [0]) (by simp) b.length (plO b (rowN (primN b) (b.length - 1)))
  have hLv : (v ++ [(0 : UInt8)]).length = v.length + 1 := by simp
  omega
end
end Go.Proofs.Ytoodfmilleodaaa
