/- The reference of the assembler, plainly: runs of bytes, digits, places of names, values. No program in sight. -/
import Derived.Test.YtlbhggjkcfcobaaDoorAf
namespace Go.Proofs.YtlbhggjkcfcobaaDoor
open Go.RowKit Go.Proofs
set_option linter.unusedVariables false

theorem runToR_step {p : UInt8 → Bool} {src : List UInt8} {i : Nat} (h : i < src.length) (hp : p (src.getD i 0) = true) : runTo p src i = runTo p src (i + 1) + 1 := by
  unfold runTo
  rw [drop_getD h, List.takeWhile_cons_of_pos hp, List.length_cons]
theorem runToR_stop {p : UInt8 → Bool} {src : List UInt8} {i : Nat} (h : i < src.length) (hp : p (src.getD i 0) = false) : runTo p src i = 0 := by
  unfold runTo
  rw [drop_getD h, List.takeWhile_cons_of_neg (by rw [hp]; simp)]
  rfl
theorem runToR_end {p : UInt8 → Bool} {src : List UInt8} {i : Nat} (h : src.length ≤ i) : runTo p src i = 0 := by
  unfold runTo
  rw [List.drop_of_length_le h]
  rfl
theorem hexD_int (b : UInt8) : (hexD b : Int) = if 48 ≤ (b.toNat : Int) ∧ (b.toNat : Int) ≤ 57 then (b.toNat : Int) - 48 else if 97 ≤ (b.toNat : Int) ∧ (b.toNat : Int) ≤ 102 then (b.toNat : Int) - 87 else 99 := by
  unfold hexD
  have h1 : (48 ≤ b ∧ b ≤ 57) ↔ (48 ≤ (b.toNat : Int) ∧ (b.toNat : Int) ≤ 57) := by
    rw [UInt8.le_iff_toNat_le, UInt8.le_iff_toNat_le]
    show (48 ≤ b.toNat ∧ b.toNat ≤ 57) ↔ _
    omega
  have h2 : (97 ≤ b ∧ b ≤ 102) ↔ (97 ≤ (b.toNat : Int) ∧ (b.toNat : Int) ≤ 102) := by
    rw [UInt8.le_iff_toNat_le, UInt8.le_iff_toNat_le]
    show (97 ≤ b.toNat ∧ b.toNat ≤ 102) ↔ _
    omega
  by_cases e1 : 48 ≤ b ∧ b ≤ 57
  · have := h1.1 e1
    rw [if_pos e1, if_pos this]; omega
  · rw [if_neg e1, if_neg (fun h => e1 (h1.2 h))]
    by_cases e2 : 97 ≤ b ∧ b ≤ 102
    · have := h2.1 e2
      rw [if_pos e2, if_pos this]; omega
    · rw [if_neg e2, if_neg (fun h => e2 (h2.2 h))]; rfl
/-- the digits from a place on. -/
def digA (base : Nat) (s : List UInt8) (i n : Nat) : Option Nat := digF base (s.drop i) n
theorem digA_end {base : Nat} {s : List UInt8} {i n : Nat} (h : s.length ≤ i) : digA base s i n = some n := by
  unfold digA; rw [List.drop_of_length_le h]; rfl
theorem digA_bad {base : Nat} {s : List UInt8} {i n : Nat} (h : i < s.length) (hb : base ≤ hexD (s.getD i 0)) : digA base s i n = none := by
  unfold digA; rw [drop_getD h, digF, if_pos hb]
theorem digA_step {base : Nat} {s : List UInt8} {i n : Nat} (h : i < s.length) (hb : hexD (s.getD i 0) < base) : digA base s i n = digA base s (i + 1) (base * n + hexD (s.getD i 0)) := by
  unfold digA; rw [drop_getD h, digF, if_neg (by omega)]
theorem pow16_step {i n d base : Nat} (hn : n < 16 ^ i) (hb : base ≤ 16) (hd : d < base) : base * n + d < 16 ^ (i + 1) := by
  have h1 : base * n ≤ 16 * n := Nat.mul_le_mul_right n hb
  have h2 : 16 * (n + 1) ≤ 16 * 16 ^ i := Nat.mul_le_mul_left 16 hn
  rw [Nat.pow_succ]
  omega
theorem pow16_le {i : Nat} (h : i ≤ 10) : 16 ^ i ≤ 1099511627776 := by
  have := Nat.pow_le_pow_right (show 0 < 16 by decide) h
  exact Nat.le_trans this (by decide)
/-- what Number tells of a word: the digits, their base. -/
theorem numLR_hex {s : List UInt8} (h : 2 < s.length ∧ s.take 2 = [48, 120]) : numL s = if 8 < (s.drop 2).length then none else (digA 16 (s.drop 2) 0 0).bind fun n => if n < 4294967296 then some n else none := by
  unfold numL; rw [if_pos h]; rfl
theorem numLR_dec {s : List UInt8} (h : ¬ (2 < s.length ∧ s.take 2 = [48, 120])) : numL s = if 1 < s.length ∧ s.head? = some 48 then none else if s.length < 1 ∨ 10 < s.length then none else (digA 10 s 0 0).bind fun n => if n < 4294967296 then some n else none := by
  unfold numL; rw [if_neg h]; rfl
/-- the place of a name, or -1. -/
def idxI (l : List (List UInt8)) (x : List UInt8) : Int := if l.contains x = true then (l.idxOf x : Int) else -1
theorem idxOf_first {x : List UInt8} : ∀ (l : List (List UInt8)) (k : Nat), k < l.length → l.getD k [] = x → (∀ j, j < k → l.getD j [] ≠ x) → l.idxOf x = k
  | [], k, hk, _, _ => by simp at hk
  | a :: l, 0, _, h, _ => by
    have h : a = x := h
    subst h
    exact List.idxOf_cons_self
  | a :: l, k + 1, hk, h, hb => by
    have ha : a ≠ x := hb 0 (by omega)
    have h2 : (a == x) = false := by simpa using ha
    rw [List.idxOf_cons, h2, cond_false, idxOf_first l k (by simpa using hk) h (fun j hj => hb (j + 1) (by omega))]
theorem idxI_hit {l : List (List UInt8)} {x : List UInt8} {k : Nat} (hk : k < l.length) (h : l.getD k [] = x) (hb : ∀ j, j < k → l.getD j [] ≠ x) : idxI l x = (k : Int) := by
  have hx : l[k] = x := by rw [← h]; simp [List.getD_eq_getElem?_getD, hk]
  have hm : x ∈ l := by rw [← hx]; exact List.getElem_mem hk
  unfold idxI
  rw [if_pos (by simpa using hm), idxOf_first l k hk h hb]
theorem idxI_miss {l : List (List UInt8)} {x : List UInt8} (hb : ∀ j, j < l.length → l.getD j [] ≠ x) : idxI l x = -1 := by
  unfold idxI
  rw [if_neg]
  intro h
  have hm : x ∈ l := by simpa using h
  obtain ⟨k, hk, e⟩ := List.getElem_of_mem hm
  exact hb k hk (by simp [List.getD_eq_getElem?_getD, hk, e])
theorem idxI_neg {l : List (List UInt8)} {x : List UInt8} : idxI l x < 0 ↔ l.contains x = false := by
  unfold idxI
  cases h : l.contains x with
  | true => simp
  | false => simp
theorem idxI_pos {l : List (List UInt8)} {x : List UInt8} (h : l.contains x = true) : idxI l x = (l.idxOf x : Int) ∧ l.idxOf x < l.length := by
  unfold idxI
  rw [if_pos h]
  exact ⟨rfl, List.idxOf_lt_length_iff.2 (by simpa using h)⟩
theorem conOf_idx (s : AS) (x : List UInt8) : conOf s x = if (s.cn.map (·.1)).contains x = true then some ((s.cn.map (·.2)).getD ((s.cn.map (·.1)).idxOf x) 0) else none := by
  unfold conOf
  generalize s.cn = l
  induction l with
  | nil => rfl
  | cons p l ih =>
    rw [List.find?_cons]
    by_cases h : p.1 = x
    · subst h
      simp
    · have h2 : (p.1 == x) = false := by simpa using h
      simp only [h, decide_false, ih, List.map_cons, List.contains_cons, List.idxOf_cons, h2, Bool.false_or]
      have h3 : (x == p.1) = false := by simpa using fun e => h e.symm
      rw [h3, Bool.false_or]
      by_cases h4 : (l.map (·.1)).contains x = true
      · rw [if_pos h4, if_pos h4]; simp
      · rw [if_neg h4, if_neg h4]
theorem conOf_some {s : AS} {x : List UInt8} : (conOf s x).isSome = (s.cn.map (·.1)).contains x := by
  rw [conOf_idx]
  cases (s.cn.map (·.1)).contains x <;> simp
theorem valueL_named {s : AS} {x : List UInt8} (hn : numL x = none) (h : nameL x = true) : valueL s x = if (s.cn.map (·.1)).contains x = true then ((s.cn.map (·.2)).getD ((s.cn.map (·.1)).idxOf x) 0, 0) else (0, 7) := by
  unfold valueL
  rw [hn]
  dsimp only
  rw [if_neg (by rw [h]; simp), conOf_idx]
  by_cases h4 : (s.cn.map (·.1)).contains x = true
  · rw [if_pos h4, if_pos h4]
  · rw [if_neg h4, if_neg h4]
theorem indexL_named {l : List (List UInt8)} {x : List UInt8} (h : nameL x = true) : indexL l x = if l.contains x = true then (l.idxOf x, 0) else (0, 7) := by
  unfold indexL
  rw [if_neg (by rw [h]; simp)]
  cases l.contains x <;> rfl
end Go.Proofs.YtlbhggjkcfcobaaDoor
