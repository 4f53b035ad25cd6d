/- Plain functions and laws about lists: longest common prefixes, permutations, ranks. No program in sight. -/
import Derived.Test.YtoodfmilleodaaaKit
namespace Go.Proofs.Ytoodfmilleodaaa
set_option linter.unusedVariables false

def lcp : List UInt8 → List UInt8 → Nat
  | a :: x, b :: y => if a = b then lcp x y + 1 else 0
  | _, _ => 0

theorem gb_eq_iff {bs : List UInt8} {i j : Nat} (hi : i < bs.length) (hj : j < bs.length) : gb bs i = gb bs j ↔ bs[i] = bs[j] := by
  unfold gb
  simp only [List.getD, List.getElem?_eq_getElem hi, List.getElem?_eq_getElem hj, Option.getD_some]
  constructor
  · intro h; exact UInt8.toNat_inj.1 (by omega)
  · intro h; rw [h]

/-- k more bytes in common, then lcp of the rests. -/
theorem lcp_step (bs : List UInt8) (p q : Nat) : ∀ k, (∀ j, j < k → p + j < bs.length ∧ q + j < bs.length ∧ gb bs (p + j) = gb bs (q + j)) →
    lcp (bs.drop p) (bs.drop q) = k + lcp (bs.drop (p + k)) (bs.drop (q + k))
  | 0, _ => by simp
  | k + 1, h => by
    rw [lcp_step bs p q k (fun j hj => h j (by omega))]
    obtain ⟨h1, h2, h3⟩ := h k (by omega)
    have e := (gb_eq_iff h1 h2).1 h3
    rw [List.drop_eq_getElem_cons h1, List.drop_eq_getElem_cons h2, lcp, if_pos e]
    simp only [Nat.add_assoc]
    omega

theorem lcp_end (bs : List UInt8) (p q k : Nat) (h : ∀ j, j < k → p + j < bs.length ∧ q + j < bs.length ∧ gb bs (p + j) = gb bs (q + j))
    (hk : p + k < bs.length → q + k < bs.length → gb bs (p + k) ≠ gb bs (q + k)) : lcp (bs.drop p) (bs.drop q) = k := by
  rw [lcp_step bs p q k h]
  suffices hs : lcp (bs.drop (p + k)) (bs.drop (q + k)) = 0 by omega
  by_cases h1 : p + k < bs.length
  · by_cases h2 : q + k < bs.length
    · have := hk h1 h2
      rw [List.drop_eq_getElem_cons h1, List.drop_eq_getElem_cons h2, lcp, if_neg (fun e => this ((gb_eq_iff h1 h2).2 e))]
    · rw [List.drop_of_length_le (by omega : bs.length ≤ q + k)]
      cases bs.drop (p + k) <;> rfl
  · rw [List.drop_of_length_le (by omega : bs.length ≤ p + k)]
    rfl

def permErrL (n : Nat) : List Int → List Int → Int
  | _, [] => 0
  | seen, z :: zs => if z < 0 ∨ (n : Int) ≤ z then 2 else if z ∈ seen then 8 else permErrL n (seen ++ [z]) zs
/-- The error of a list of places: 2, 8 or 0. -/
def permErr (zs : List Int) : Int := permErrL zs.length [] zs

theorem gi_get {zs : List Int} {k : Nat} (hk : k < zs.length) : gi zs k = zs[k] := by simp [gi, List.getD, hk]
theorem drop_gi {zs : List Int} {k : Nat} (hk : k < zs.length) : zs.drop k = gi zs k :: zs.drop (k + 1) := by rw [gi_get hk]; exact List.drop_eq_getElem_cons hk
theorem take_gi {zs : List Int} {k : Nat} (hk : k < zs.length) : zs.take (k + 1) = zs.take k ++ [gi zs k] := by rw [gi_get hk, List.take_succ_eq_append_getElem hk]

theorem permErr_range {zs : List Int} {n k : Nat} (hk : k < zs.length) (h : gi zs k < 0 ∨ (n : Int) ≤ gi zs k) : permErrL n (zs.take k) (zs.drop k) = 2 := by
  rw [drop_gi hk, permErrL, if_pos h]
theorem permErr_twice {zs : List Int} {n k : Nat} (hk : k < zs.length) (h0 : 0 ≤ gi zs k) (h1 : gi zs k < n) (h : gi zs k ∈ zs.take k) : permErrL n (zs.take k) (zs.drop k) = 8 := by
  rw [drop_gi hk, permErrL, if_neg (by omega), if_pos h]
theorem permErr_next {zs : List Int} {n k : Nat} (hk : k < zs.length) (h0 : 0 ≤ gi zs k) (h1 : gi zs k < n) (h : gi zs k ∉ zs.take k) : permErrL n (zs.take k) (zs.drop k) = permErrL n (zs.take (k + 1)) (zs.drop (k + 1)) := by
  rw [drop_gi hk, permErrL, if_neg (by omega), if_neg h, take_gi hk]
theorem permErr_done {zs : List Int} {n : Nat} : permErrL n (zs.take zs.length) (zs.drop zs.length) = 0 := by simp [permErrL]
theorem permErr_done' {zs : List Int} {n k : Nat} (h : zs.length ≤ k) : permErrL n (zs.take k) (zs.drop k) = 0 := by
  rw [List.drop_of_length_le h]; rfl
theorem permErr_start (zs : List Int) : permErrL zs.length (zs.take 0) (zs.drop 0) = permErr zs := by simp [permErr]

theorem permErr_vals (n : Nat) : ∀ zs seen, permErrL n seen zs = 0 ∨ permErrL n seen zs = 2 ∨ permErrL n seen zs = 8
  | [], _ => .inl rfl
  | z :: zs, seen => by
    unfold permErrL
    split
    · exact .inr (.inl rfl)
    · split
      · exact .inr (.inr rfl)
      · exact permErr_vals n zs _

/-- What is known of a list without an error. -/
theorem permErrL_zero (n : Nat) : ∀ zs seen, permErrL n seen zs = 0 → (∀ z ∈ zs, 0 ≤ z ∧ z < n) ∧ zs.Nodup ∧ ∀ z ∈ zs, z ∉ seen
  | [], _, _ => ⟨fun z hz => absurd hz (by simp), List.nodup_nil, fun z hz => absurd hz (by simp)⟩
  | z :: zs, seen, h => by
    rw [permErrL] at h
    by_cases h1 : z < 0 ∨ (n : Int) ≤ z
    · rw [if_pos h1] at h; omega
    · rw [if_neg h1] at h
      by_cases h2 : z ∈ seen
      · rw [if_pos h2] at h; omega
      · rw [if_neg h2] at h
        obtain ⟨g1, g2, g3⟩ := permErrL_zero n zs _ h
        refine ⟨fun y hy => ?_, List.nodup_cons.2 ⟨fun hz => g3 z hz (by simp), g2⟩, fun y hy => ?_⟩
        · rcases List.mem_cons.1 hy with rfl | hy
          · omega
          · exact g1 y hy
        · rcases List.mem_cons.1 hy with rfl | hy
          · exact h2
          · exact fun hs => g3 y hy (by simp [hs])

theorem permErrL_ok (n : Nat) : ∀ (zs seen : List Int), (∀ z ∈ zs, 0 ≤ z ∧ z < n) → zs.Nodup → (∀ z ∈ zs, z ∉ seen) → permErrL n seen zs = 0
  | [], _, _, _, _ => rfl
  | z :: zs, seen, h1, h2, h3 => by
    rw [permErrL, if_neg (by have := h1 z (by simp); omega), if_neg (h3 z (by simp))]
    have h2' := List.nodup_cons.1 h2
    refine permErrL_ok n zs (seen ++ [z]) (fun y hy => h1 y (by simp [hy])) h2'.2 (fun y hy hs => ?_)
    rcases List.mem_append.1 hs with hs | hs
    · exact h3 y (by simp [hy]) hs
    · simp at hs; subst hs; exact h2'.1 hy
theorem permErr_zero_iff (zs : List Int) : permErr zs = 0 ↔ (∀ z ∈ zs, 0 ≤ z ∧ z < zs.length) ∧ zs.Nodup :=
  ⟨fun h => let ⟨a, b, _⟩ := permErrL_zero _ _ _ h; ⟨a, b⟩, fun ⟨a, b⟩ => permErrL_ok _ _ _ a b (fun _ _ h => by simp at h)⟩

/-- seen after k rounds. -/
def seenL (zs : List Int) (n k : Nat) : List Bool := (List.range n).map fun j : Nat => decide ((j : Int) ∈ zs.take k)
def gt (bs : List Bool) (k : Nat) : Bool := bs.getD k false
theorem seenL_length (zs : List Int) (n k : Nat) : (seenL zs n k).length = n := by simp [seenL]
theorem seenL_zero (zs : List Int) (n : Nat) : seenL zs n 0 = List.replicate n false := by
  apply List.ext_getElem <;> simp [seenL]
theorem gt_seenL {zs : List Int} {n k : Nat} {z : Int} (h0 : 0 ≤ z) (h1 : z < n) : gt (seenL zs n k) z.toNat = decide (z ∈ zs.take k) := by
  have : z.toNat < n := by omega
  simp [gt, seenL, List.getD, this, Int.toNat_of_nonneg h0]
theorem seenL_next {zs : List Int} {n k : Nat} (hk : k < zs.length) (h0 : 0 ≤ gi zs k) (h1 : gi zs k < n) : (seenL zs n k).set (gi zs k).toNat true = seenL zs n (k + 1) := by
  apply List.ext_getElem
  · simp [seenL]
  intro i h2 h3
  have hi : i < n := by simpa [seenL] using h3
  rw [List.getElem_set]
  simp only [seenL, List.getElem_map, List.getElem_range]
  rw [take_gi hk]
  by_cases e : (gi zs k).toNat = i
  · rw [if_pos e]
    symm
    apply decide_eq_true
    have : (i : Int) = gi zs k := by omega
    simp [this]
  · rw [if_neg e]
    have : ¬ (i : Int) = gi zs k := by omega
    simp [this]

/-- the rows of places after k rounds; d where there is none yet. -/
def rankL (d : Int) (zs : List Int) (n k : Nat) : List Int := (List.range n).map fun j : Nat => if (j : Int) ∈ zs.take k then ((zs.idxOf (j : Int) : Nat) : Int) else d
def ranksL (zs : List Int) : List Int := (List.range zs.length).map fun j : Nat => ((zs.idxOf (j : Int) : Nat) : Int)
theorem rankL_length (d : Int) (zs : List Int) (n k : Nat) : (rankL d zs n k).length = n := by simp [rankL]
theorem rankL_zero (d : Int) (zs : List Int) (n : Nat) : rankL d zs n 0 = List.replicate n d := by
  apply List.ext_getElem <;> simp [rankL]
theorem gi_rankL {d : Int} {zs : List Int} {n k : Nat} {z : Int} (h0 : 0 ≤ z) (h1 : z < n) : gi (rankL d zs n k) z.toNat = if z ∈ zs.take k then ((zs.idxOf z : Nat) : Int) else d := by
  have : z.toNat < n := by omega
  simp [gi, rankL, List.getD, this, Int.toNat_of_nonneg h0]
theorem idxOf_fresh {zs : List Int} {k : Nat} (hk : k < zs.length) (h : gi zs k ∉ zs.take k) : zs.idxOf (gi zs k) = k := by
  have e : zs = zs.take k ++ gi zs k :: zs.drop (k + 1) := by rw [← drop_gi hk, List.take_append_drop]
  have hl : (zs.take k).length = k := by simp; omega
  have h2 : (zs.take k ++ gi zs k :: zs.drop (k + 1)).idxOf (gi zs k) = k := by
    rw [List.idxOf_append, if_neg h, hl, List.idxOf_cons_self]
    omega
  rwa [← e] at h2
theorem rankL_next {d : Int} {zs : List Int} {n k : Nat} (hk : k < zs.length) (h0 : 0 ≤ gi zs k) (h1 : gi zs k < n) (h : gi zs k ∉ zs.take k) : (rankL d zs n k).set (gi zs k).toNat (k : Int) = rankL d zs n (k + 1) := by
  apply List.ext_getElem
  · simp [rankL]
  intro i h2 h3
  have hi : i < n := by simpa [rankL] using h3
  rw [List.getElem_set]
  simp only [rankL, List.getElem_map, List.getElem_range]
  rw [take_gi hk]
  by_cases e : (gi zs k).toNat = i
  · rw [if_pos e]
    have : (i : Int) = gi zs k := by omega
    rw [this, if_pos (by simp), idxOf_fresh hk h]
  · rw [if_neg e]
    have : ¬ (i : Int) = gi zs k := by omega
    simp [this]

theorem nodup_le : ∀ (n : Nat) (l : List Nat), l.Nodup → (∀ x ∈ l, x < n) → l.length ≤ n
  | 0, l, _, h => by
    cases l with
    | nil => simp
    | cons x xs => have := h x (by simp); omega
  | n + 1, l, hd, h => by
    by_cases hm : n ∈ l
    · have h1 := nodup_le n (l.erase n) (hd.sublist List.erase_sublist) (fun x hx => by
        have h2 := (hd.mem_erase_iff).1 hx
        have := h x h2.2
        have := h2.1
        omega)
      rw [List.length_erase_of_mem hm] at h1
      omega
    · have := nodup_le n l hd (fun x hx => by
        have := h x hx
        have : x ≠ n := fun e => hm (e ▸ hx)
        omega)
      omega
theorem perm_all_mem {zs : List Int} (h : permErr zs = 0) {j : Nat} (hj : j < zs.length) : (j : Int) ∈ zs := by
  obtain ⟨h1, h2⟩ := (permErr_zero_iff zs).1 h
  -- a pigeonhole: zs has no two alike and lies within range
  have hsub : (zs.map Int.toNat).Nodup := by
    rw [List.nodup_iff_pairwise_ne, List.pairwise_map]
    refine List.Pairwise.imp_of_mem ?_ (List.nodup_iff_pairwise_ne.1 h2)
    intro a b ha hb hab e
    have := h1 a ha; have := h1 b hb
    omega
  have hle : ∀ x ∈ zs.map Int.toNat, x < zs.length := by
    intro x hx
    obtain ⟨z, hz, rfl⟩ := List.mem_map.1 hx
    have := h1 z hz
    omega
  have hm : j ∈ zs.map Int.toNat := by
    rcases Classical.em (j ∈ zs.map Int.toNat) with hm | hm
    · exact hm
    · have := nodup_le zs.length (j :: zs.map Int.toNat) (List.nodup_cons.2 ⟨hm, hsub⟩) (fun x hx => by
        rcases List.mem_cons.1 hx with rfl | hx
        · exact hj
        · exact hle x hx)
      simp at this
      omega
  obtain ⟨z, hz, e⟩ := List.mem_map.1 hm
  have := h1 z hz
  have : z = (j : Int) := by omega
  exact this ▸ hz

theorem rankL_done {d : Int} {zs : List Int} (h : permErr zs = 0) : rankL d zs zs.length zs.length = ranksL zs := by
  apply List.ext_getElem
  · simp [rankL, ranksL]
  intro i h2 h3
  have hi : i < zs.length := by simpa [ranksL] using h3
  simp only [rankL, ranksL, List.getElem_map, List.getElem_range]
  rw [if_pos (by simpa using perm_all_mem h hi)]

/-- the suffix at a place. -/
def sfx (bs : List UInt8) (z : Int) : List UInt8 := bs.drop z.toNat
def less (x y : List UInt8) : Bool := Op.bytesLess x y

def ascB (bs : List UInt8) (zs : List Int) : Bool := (List.range (zs.length - 1)).all fun i => less (sfx bs (gi zs i)) (sfx bs (gi zs (i + 1)))
theorem ascB_true {bs : List UInt8} {zs : List Int} (h : ∀ i, i + 1 < zs.length → less (sfx bs (gi zs i)) (sfx bs (gi zs (i + 1))) = true) : ascB bs zs = true := by
  unfold ascB
  rw [List.all_eq_true]
  intro i hi
  exact h i (by simp at hi; omega)
theorem ascB_false {bs : List UInt8} {zs : List Int} {i : Nat} (hi : i + 1 < zs.length) (h : less (sfx bs (gi zs i)) (sfx bs (gi zs (i + 1))) = false) : ascB bs zs = false := by
  unfold ascB
  rw [List.all_eq_false]
  exact ⟨i, by simp; omega, by simp [h]⟩

/-- the error of Check. -/
def checkErr (bs : List UInt8) (zs : List Int) : Int :=
  if 65536 < bs.length then 5 else if zs.length ≠ bs.length + 1 then 6 else if permErr zs ≠ 0 then permErr zs else if ascB bs zs then 0 else 29

theorem checkErr_zero {bs : List UInt8} {zs : List Int} (h : checkErr bs zs = 0) : bs.length ≤ 65536 ∧ zs.length = bs.length + 1 ∧ permErr zs = 0 ∧ ascB bs zs = true := by
  unfold checkErr at h
  by_cases h1 : 65536 < bs.length
  · rw [if_pos h1] at h; omega
  rw [if_neg h1] at h
  by_cases h2 : zs.length ≠ bs.length + 1
  · rw [if_pos h2] at h; omega
  rw [if_neg h2] at h
  by_cases h3 : permErr zs ≠ 0
  · rw [if_pos h3] at h; exact absurd h h3
  rw [if_neg h3] at h
  cases h4 : ascB bs zs with
  | true => exact ⟨by omega, by omega, by omega, rfl⟩
  | false => rw [h4] at h; simp at h

def commonF (bs : List UInt8) (zs : List Int) (i : Nat) : Int := if i = 0 then 0 else lcp (sfx bs (gi zs (i - 1))) (sfx bs (gi zs i))
def commonTo (bs : List UInt8) (zs : List Int) (k : Nat) : List Int := (List.range k).map (commonF bs zs)
def commonL (bs : List UInt8) (zs : List Int) : List Int := commonTo bs zs zs.length
theorem commonTo_next (bs : List UInt8) (zs : List Int) (k : Nat) (hk : 1 ≤ k) : commonTo bs zs (k + 1) = commonTo bs zs k ++ [(lcp (sfx bs (gi zs (k - 1))) (sfx bs (gi zs k)) : Int)] := by
  unfold commonTo
  rw [List.range_succ, List.map_append]
  simp [commonF, show k ≠ 0 by omega]
theorem commonTo_one (bs : List UInt8) (zs : List Int) : commonTo bs zs 1 = [0] := rfl
theorem commonTo_length (bs : List UInt8) (zs : List Int) (k : Nat) : (commonTo bs zs k).length = k := by simp [commonTo]

/-- how many in front meet a test. -/
def ahead (f : Int → Bool) (zs : List Int) : Nat := (zs.takeWhile f).length
theorem ahead_eq {f : Int → Bool} : ∀ {zs : List Int} {k : Nat}, k ≤ zs.length → (∀ i, i < k → f (gi zs i) = true) → (k < zs.length → f (gi zs k) = false) → ahead f zs = k
  | [], k, hk, _, _ => by simp at hk; subst hk; rfl
  | z :: zs, 0, _, _, h => by
    have := h (by simp)
    simp [gi] at this
    simp [ahead, List.takeWhile, this]
  | z :: zs, k + 1, hk, h1, h2 => by
    have h0 : f z = true := by have := h1 0 (by omega); simpa [gi] using this
    have := ahead_eq (f := f) (zs := zs) (k := k) (by simpa using hk) (fun i hi => by have := h1 (i + 1) (by omega); simpa [gi] using this) (fun hlt => by have := h2 (by simpa using hlt); simpa [gi] using this)
    unfold ahead at this ⊢
    simp [List.takeWhile, h0, this]
def begins (pat : List UInt8) (x : List UInt8) : Bool := decide (x.take pat.length = pat)
def lowOf (bs : List UInt8) (zs : List Int) (pat : List UInt8) : Nat := ahead (fun z => less (sfx bs z) pat) zs
def highOf (bs : List UInt8) (zs : List Int) (pat : List UInt8) : Nat := lowOf bs zs pat + ahead (fun z => begins pat (sfx bs z)) (zs.drop (lowOf bs zs pat))

/-- the insertion of a place. -/
def insAt (bs : List UInt8) (l : List Int) (p : Int) : Nat := ahead (fun z => less (sfx bs z) (sfx bs p)) l
def insP (bs : List UInt8) (l : List Int) (p : Int) : List Int := l.take (insAt bs l p) ++ [p] ++ l.drop (insAt bs l p)
/-- what the reference has behind k rounds: the places n, n - 1, .. -/
def sortTo (bs : List UInt8) : Nat → List Int
  | 0 => []
  | k + 1 => insP bs (sortTo bs k) ((bs.length - k : Nat) : Int)
def sortL (bs : List UInt8) : List Int := sortTo bs (bs.length + 1)
theorem insAt_le (bs : List UInt8) (l : List Int) (p : Int) : insAt bs l p ≤ l.length := by
  unfold insAt ahead
  exact (List.takeWhile_sublist _).length_le
theorem insP_length (bs : List UInt8) (l : List Int) (p : Int) : (insP bs l p).length = l.length + 1 := by
  have := insAt_le bs l p
  unfold insP
  simp
  omega
theorem sortTo_length (bs : List UInt8) : ∀ k, (sortTo bs k).length = k
  | 0 => rfl
  | k + 1 => by rw [sortTo, insP_length, sortTo_length bs k]
theorem mem_insP {bs : List UInt8} {l : List Int} {p z : Int} (h : z ∈ insP bs l p) : z = p ∨ z ∈ l := by
  unfold insP at h
  simp only [List.mem_append, List.mem_singleton] at h
  rcases h with (h | h) | h
  · exact .inr (List.mem_of_mem_take h)
  · exact .inl h
  · exact .inr (List.mem_of_mem_drop h)
theorem sortTo_range (bs : List UInt8) : ∀ k, ∀ z ∈ sortTo bs k, 0 ≤ z ∧ z ≤ bs.length
  | 0, z, h => by simp [sortTo] at h
  | k + 1, z, h => by
    rcases mem_insP h with rfl | h
    · omega
    · exact sortTo_range bs k z h
theorem gi_mem {zs : List Int} {k : Nat} (hk : k < zs.length) : gi zs k ∈ zs := by rw [gi_get hk]; exact List.getElem_mem hk

def ranksErr (zs : List Int) : Int := if zs.length = 0 ∨ 65537 < zs.length then 6 else permErr zs
def ranksOut (zs : List Int) : List Int := if ranksErr zs = 0 then ranksL zs else []
end Go.Proofs.Ytoodfmilleodaaa
