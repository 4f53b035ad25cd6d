/- Plain words for the loops over pieces, words, stages. No program in sight. -/
import Derived.Test.YtckkmafppfcecaaGreatDoorYa
namespace Go.Proofs.YtckkmafppfcecaaGreatDoor
open Go.RowKit Go.Proofs
set_option linter.unusedVariables false
set_option linter.unusedSimpArgs false

def totP (ps : List (List UInt8)) : Nat := (ps.map fun p => p.length + 1).sum
theorem placed_append : ∀ (xs ys : List (List UInt8)) (i : Nat), placed (xs ++ ys) i = placed xs i ++ placed ys (i + totP xs)
  | [], ys, i => by simp [placed, totP]
  | p :: xs, ys, i => by
    have ih := placed_append xs ys
    have ht : totP (p :: xs) = p.length + 1 + totP xs := by simp [totP]
    rw [List.cons_append, placed, placed, ht]
    by_cases hp : p = []
    · subst hp
      rw [if_pos rfl, if_pos rfl, ih, show i + 1 + totP xs = i + (([] : List UInt8).length + 1 + totP xs) by simp; omega]
    · rw [if_neg hp, if_neg hp, ih, List.cons_append, show i + p.length + 1 + totP xs = i + (p.length + 1 + totP xs) by omega]
def gP (ps : List (List UInt8)) (k : Nat) : List UInt8 := ps.getD k []
theorem take_gP {ps : List (List UInt8)} {k : Nat} (h : k < ps.length) : ps.take (k + 1) = ps.take k ++ [gP ps k] := by
  rw [List.take_succ_eq_append_getElem h]
  unfold gP
  rw [List.getD_eq_getElem?_getD, List.getElem?_eq_getElem h]; rfl
theorem placed_next {ps : List (List UInt8)} {k : Nat} (h : k < ps.length) : placed (ps.take (k + 1)) 0 = if gP ps k = [] then placed (ps.take k) 0 else placed (ps.take k) 0 ++ [(gP ps k, totP (ps.take k))] := by
  rw [take_gP h, placed_append, placed, placed, placed, Nat.zero_add]
  split <;> simp
theorem tot_next {ps : List (List UInt8)} {k : Nat} (h : k < ps.length) : totP (ps.take (k + 1)) = totP (ps.take k) + (gP ps k).length + 1 := by
  rw [take_gP h]; simp [totP]; omega
theorem tot_spl : ∀ s : List UInt8, totP (spl s) = s.length + 1
  | [] => rfl
  | c :: s => by
    have ih := tot_spl s
    rw [spl]
    split
    · simp [totP] at ih ⊢; omega
    · cases h : spl s with
      | nil => exact absurd h (spl_ne s)
      | cons a l =>
        rw [h] at ih
        simp [totP] at ih ⊢; omega
theorem tot_le : ∀ (ps : List (List UInt8)) (k : Nat), totP (ps.take k) ≤ totP ps
  | [], k => by simp
  | p :: ps, 0 => by simp [totP]
  | p :: ps, k + 1 => by
    have := tot_le ps k
    simp [totP] at this ⊢; omega
theorem gP_le : ∀ (ps : List (List UInt8)) (k : Nat), (gP ps k).length ≤ totP ps
  | [], k => by simp [gP]
  | p :: ps, 0 => by simp [totP, gP]; omega
  | p :: ps, k + 1 => by
    have := gP_le ps k
    simp [totP, gP] at this ⊢; omega
theorem placed_at : ∀ (ps : List (List UInt8)) (i : Nat), ∀ x ∈ placed ps i, x.2 ≤ i + totP ps ∧ x.1 ≠ [] ∧ x.1.length ≤ totP ps
  | [], i, x, h => by simp [placed] at h
  | p :: ps, i, x, h => by
    rw [placed] at h
    have ht : totP (p :: ps) = p.length + 1 + totP ps := by simp [totP]
    split at h
    · have := placed_at ps _ x h
      exact ⟨by omega, this.2.1, by omega⟩
    · rename_i hp
      rcases List.mem_cons.1 h with rfl | h
      · exact ⟨by dsimp only; omega, hp, by dsimp only; omega⟩
      · have := placed_at ps _ x h
        exact ⟨by omega, this.2.1, by omega⟩
theorem words_at {s : List UInt8} {x : List UInt8 × Nat} (h : x ∈ wordsP s) : x.2 ≤ s.length + 1 ∧ x.1.length ≤ s.length + 1 := by
  have := placed_at _ _ x h
  rw [tot_spl] at this
  exact ⟨by omega, this.2.2⟩
theorem placed_length : ∀ (ps : List (List UInt8)) (i : Nat), (placed ps i).length ≤ ps.length
  | [], i => by simp [placed]
  | p :: ps, i => by
    rw [placed]
    split
    · have := placed_length ps (i + 1); simp; omega
    · have := placed_length ps (i + p.length + 1); simp; omega
theorem spl_length : ∀ s : List UInt8, (spl s).length ≤ s.length + 1
  | [] => by simp [spl]
  | c :: s => by
    have := spl_length s
    rw [spl]
    split
    · simp; omega
    · split
      · simp
      · rename_i h t e; rw [e] at this; simp at this ⊢; omega
theorem words_length (s : List UInt8) : (wordsP s).length ≤ s.length + 1 := Nat.le_trans (placed_length _ _) (spl_length s)

/-- the words behind place i. -/
def wordsI (s : List UInt8) (i : Nat) : List (List UInt8 × Nat) := placed (spl (s.drop i)) i
theorem wordsI_end {s : List UInt8} {i : Nat} (h : s.length ≤ i) : wordsI s i = [] := by
  unfold wordsI
  rw [List.drop_eq_nil_of_le h]; rfl
/-- a run of bytes without a space from i up to j, and a space or the end there. -/
theorem wordsI_run {s : List UInt8} {i j : Nat} (hij : i ≤ j) (hj : j ≤ s.length) (hne : ∀ k, i ≤ k → k < j → s.getD k 0 ≠ 32) (he : j = s.length ∨ s.getD j 0 = 32) :
    wordsI s i = if j = i then wordsI s (j + 1) else ((s.drop i).take (j - i), i) :: wordsI s (j + 1) := by
  have hlen : ((s.drop i).take (j - i)).length = j - i := by simp; omega
  have hno : (32 : UInt8) ∉ (s.drop i).take (j - i) := by
    intro hm
    obtain ⟨k, hk, hx⟩ := List.getElem_of_mem hm
    rw [hlen] at hk
    have := hne (i + k) (by omega) (by omega)
    rw [List.getElem_take, List.getElem_drop] at hx
    rw [List.getD_eq_getElem?_getD, List.getElem?_eq_getElem (by omega)] at this
    exact this hx
  have hsplit : s.drop i = (s.drop i).take (j - i) ++ s.drop j := by
    conv => lhs; rw [← List.take_append_drop (j - i) (s.drop i)]
    rw [List.drop_drop, show i + (j - i) = j by omega]
  have hnil : (s.drop i).take (j - i) = [] ↔ j = i := by
    constructor
    · intro h; rw [h] at hlen; simp at hlen; omega
    · rintro rfl; simp
  generalize hx : (s.drop i).take (j - i) = x at hsplit hno hnil hlen ⊢
  unfold wordsI
  rw [hsplit]
  rcases he with he | he
  · have : s.drop j = [] := List.drop_eq_nil_of_le (by omega)
    rw [this, List.append_nil, spl_last hno, placed, placed, List.drop_eq_nil_of_le (by omega : s.length ≤ j + 1)]
    by_cases h : j = i
    · rw [if_pos (hnil.2 h), if_pos h]; rfl
    · rw [if_neg (fun h2 => h (hnil.1 h2)), if_neg h]; rfl
  · by_cases hjl : j < s.length
    · have : s.drop j = 32 :: s.drop (j + 1) := by
        rw [List.drop_eq_getElem_cons hjl]
        rw [List.getD_eq_getElem?_getD, List.getElem?_eq_getElem hjl] at he
        congr 1
      rw [this, spl_word hno, placed, hlen]
      by_cases h : j = i
      · rw [if_pos (hnil.2 h), if_pos h, h]
      · rw [if_neg (fun h2 => h (hnil.1 h2)), if_neg h, show i + (j - i) + 1 = j + 1 by omega]
    · rw [List.getD_eq_getElem?_getD, List.getElem?_eq_none (by omega)] at he
      exact absurd he (by decide)

theorem num_atoi {s : List UInt8} {k : Nat} (h : numP s = some k) : Lib.atoiAll s = .ok (k : Int) := by
  obtain ⟨rfl, hk⟩ := numP_back h; exact atoi_dec hk
theorem num_of_atoi {s : List UInt8} {v : Int} (h : Lib.atoiAll s = .ok v) : numP s = if 0 ≤ v ∧ v ≤ 9007199254740991 ∧ decS v.toNat = s then some v.toNat else none := by
  split
  · rename_i hc
    obtain ⟨h0, h1, h2⟩ := hc
    rw [← h2]
    exact numP_dec (by omega)
  · rename_i hc
    cases hn : numP s with
    | none => rfl
    | some k =>
      exfalso
      have h3 := num_atoi hn
      rw [h] at h3
      injection h3 with h3
      obtain ⟨h4, h5⟩ := numP_back hn
      refine hc ⟨by omega, by omega, ?_⟩
      rw [h3, Int.toNat_natCast]; exact h4.symm
theorem num_none {s : List UInt8} (h : ∀ v, Lib.atoiAll s ≠ .ok v) : numP s = none := by
  cases hn : numP s with
  | none => rfl
  | some k => exact absurd (num_atoi hn) (h _)

theorem kind_hit {x : List UInt8} {k : Nat} (hk : k < 10) (hx : nameP ((k : Nat) : Int) = x) (hb : ∀ j, j < k → nameP ((j : Nat) : Int) ≠ x) : kindP x = (k : Int) := by
  have : (List.range 10).find? (fun k : Nat => decide (nameP ((k : Nat) : Int) = x)) = some k := by
    rw [List.find?_eq_some_iff_getElem]
    refine ⟨by simp [hx], k, by simpa using hk, by simp, fun j hj => ?_⟩
    have := hb j hj
    simp at this ⊢
    exact this
  unfold kindP
  rw [this]
theorem kind_miss {x : List UInt8} (hb : ∀ j, j < 10 → nameP ((j : Nat) : Int) ≠ x) : kindP x = -1 := by
  have : (List.range 10).find? (fun k : Nat => decide (nameP ((k : Nat) : Int) = x)) = none := by
    rw [List.find?_eq_none]
    intro j hj
    have := hb j (by simpa using hj)
    simpa using this
  unfold kindP
  rw [this]
theorem kind_range (x : List UInt8) : -1 ≤ kindP x ∧ kindP x < 10 := by
  unfold kindP
  cases h : (List.range 10).find? (fun k : Nat => decide (nameP ((k : Nat) : Int) = x)) with
  | none => simp
  | some k =>
    have := List.mem_of_find?_eq_some h
    have : k < 10 := by simpa using this
    constructor <;> dsimp only <;> omega

theorem wordsOf_append : ∀ l m : List Stg, wordsOf (l ++ m) = wordsOf l ++ wordsOf m
  | [], m => rfl
  | s :: l, m => by rw [List.cons_append, wordsOf, wordsOf, wordsOf_append l m]; simp
theorem take_sG {l : List Stg} {k : Nat} (h : k < l.length) : l.take (k + 1) = l.take k ++ [sG l k] := by
  rw [List.take_succ_eq_append_getElem h]
  unfold sG
  rw [List.getD_eq_getElem?_getD, List.getElem?_eq_getElem h]; rfl
theorem wordsOf_next {l : List Stg} {k : Nat} (h : k < l.length) : wordsOf (l.take (k + 1)) = wordsOf (l.take k) ++ (nameP (sG l k).1 :: if (sG l k).1 = 0 then [decS (sG l k).2.toNat] else []) := by
  rw [take_sG h, wordsOf_append]
  simp [wordsOf]
theorem joinP_append : ∀ (x : List UInt8) (ws : List (List UInt8)) (y : List UInt8) (vs : List (List UInt8)), joinP ((x :: ws) ++ (y :: vs)) = joinP (x :: ws) ++ 32 :: joinP (y :: vs)
  | x, [], y, vs => rfl
  | x, z :: ws, y, vs => by
    have := joinP_append z ws y vs
    rw [List.cons_append] at this ⊢
    rw [List.cons_append, joinP, joinP, this, List.append_assoc, List.cons_append]
theorem join_next {l : List Stg} {k : Nat} (h : k < l.length) : joinP (wordsOf (l.take (k + 1))) = joinP (wordsOf (l.take k)) ++ ((if k = 0 then [] else [32]) ++ (nameP (sG l k).1 ++ (if (sG l k).1 = 0 then 32 :: decS (sG l k).2.toNat else []))) := by
  rw [wordsOf_next h]
  have hj : joinP (nameP (sG l k).1 :: if (sG l k).1 = 0 then [decS (sG l k).2.toNat] else []) = nameP (sG l k).1 ++ (if (sG l k).1 = 0 then 32 :: decS (sG l k).2.toNat else []) := by
    by_cases h0 : (sG l k).1 = 0
    · rw [if_pos h0, if_pos h0]; rfl
    · rw [if_neg h0, if_neg h0, List.append_nil]; rfl
  rcases Nat.eq_zero_or_pos k with rfl | hk
  · rw [List.take_zero]
    simp only [wordsOf, List.nil_append, if_pos]
    rw [hj]; rfl
  · rw [if_neg (show ¬ k = 0 by omega)]
    have : l.take k ≠ [] := by
      intro e
      have := congrArg List.length e
      rw [List.length_take, List.length_nil] at this; omega
    obtain ⟨s, m, e⟩ : ∃ s m, l.take k = s :: m := by
      cases hh : l.take k with
      | nil => exact absurd hh this
      | cons a t => exact ⟨a, t, rfl⟩
    rw [e, wordsOf, joinP_append, hj]; rfl
end Go.Proofs.YtckkmafppfcecaaGreatDoor
