/- Zd Ze Sp. -/
import Derived.Test.YtckkmafppfcecaaGreatDoorCN00
/- Factorizations, plainly: choices, prices, potentials, the optimal factorization, expansion. No program in sight. -/
namespace Go.Proofs.YtckkmafppfcecaaGreatDoor
open Go.RowKit Go.Proofs
set_option linter.unusedVariables false
set_option linter.unusedSimpArgs false

/-- a token: its length, its distance, its byte. -/
structure Tok where
  len : Nat
  dst : Nat
  byt : UInt8
  deriving DecidableEq, Inhabited
def tsz (t : Tok) : Nat := max t.len 1
def rightT (t : Tok) : Bool := if t.len = 0 then decide (t.dst = 0) else decide (t.byt = 0 ∧ 2 ≤ t.len ∧ t.len ≤ 255 ∧ 1 ≤ t.dst ∧ t.dst ≤ 4096)
/-- how many binary digits a number has. -/
def nb (n : Nat) : Nat := if h : n = 0 then 0 else nb (n / 2) + 1
  termination_by n
  decreasing_by omega
def gmB (n : Nat) : Int := 2 * ((nb n : Nat) : Int) - 1
def priT (t : Tok) : Int := if rightT t = false then 0 else if t.len = 0 then 9 else 1 + gmB (t.len - 1) + gmB t.dst
theorem nb_pos {n : Nat} (h : 0 < n) : 1 ≤ nb n := by rw [nb, dif_neg (by omega)]; omega
theorem nb_lt : ∀ (k n : Nat), n < 2 ^ k → nb n ≤ k
  | 0, n, h => by obtain rfl : n = 0 := by simpa using h
                  rw [nb, dif_pos rfl]; exact Nat.le_refl _
  | k + 1, n, h => by
    by_cases h0 : n = 0
    · rw [nb, dif_pos h0]; omega
    · rw [nb, dif_neg h0]
      have := nb_lt k (n / 2) (by rw [Nat.pow_succ] at h; omega)
      omega
theorem pri_lo (t : Tok) : 0 ≤ priT t := by
  unfold priT
  split
  · omega
  · rename_i h
    split
    · omega
    · rename_i h2
      simp only [rightT, if_neg h2, decide_eq_false_iff_not, Classical.not_not] at h
      have h1 := nb_pos (n := t.len - 1) (by omega)
      have h2 := nb_pos (n := t.dst) (by omega)
      unfold gmB
      omega
theorem pri_hi (t : Tok) : priT t ≤ 41 := by
  unfold priT
  split
  · omega
  · rename_i h
    split
    · omega
    · rename_i h2
      simp only [rightT, if_neg h2, decide_eq_false_iff_not, Classical.not_not] at h
      have h1 := nb_lt 8 (t.len - 1) (by omega)
      have h2 := nb_lt 13 t.dst (by omega)
      unfold gmB
      omega
/-- how many bytes from a place on are as those at a distance; n of them known. -/
def cmF (bs : List UInt8) (at_ d n : Nat) : Nat := if h : n < 255 ∧ at_ + n < bs.length ∧ bA bs (at_ + n) = bA bs (at_ + n - d) then cmF bs at_ d (n + 1) else n
  termination_by 255 - n
  decreasing_by omega
def cmn (bs : List UInt8) (at_ d : Nat) : Nat := cmF bs at_ d 0
theorem cmF_more {bs : List UInt8} {at_ d n : Nat} (h : n < 255 ∧ at_ + n < bs.length ∧ bA bs (at_ + n) = bA bs (at_ + n - d)) : cmF bs at_ d n = cmF bs at_ d (n + 1) := by rw [cmF, dif_pos h]
theorem cmF_end {bs : List UInt8} {at_ d n : Nat} (h : ¬ (n < 255 ∧ at_ + n < bs.length ∧ bA bs (at_ + n) = bA bs (at_ + n - d))) : cmF bs at_ d n = n := by rw [cmF, dif_neg h]
theorem cmF_spec {bs : List UInt8} {at_ d : Nat} : ∀ (m n : Nat), 255 - n = m → n ≤ 255 → at_ + n ≤ bs.length → (∀ j, j < n → bA bs (at_ + j) = bA bs (at_ + j - d)) → cmF bs at_ d n ≤ 255 ∧ at_ + cmF bs at_ d n ≤ bs.length ∧ ∀ j, j < cmF bs at_ d n → bA bs (at_ + j) = bA bs (at_ + j - d) := by
  intro m
  induction m using Nat.strongRecOn with
  | _ m ih =>
    intro n hm hn hl hj
    by_cases h : n < 255 ∧ at_ + n < bs.length ∧ bA bs (at_ + n) = bA bs (at_ + n - d)
    · rw [cmF_more h]
      refine ih _ (by omega) (n + 1) rfl (by omega) (by omega) fun j hj' => ?_
      rcases Nat.lt_or_ge j n with h1 | h1
      · exact hj j h1
      · obtain rfl : j = n := by omega
        exact h.2.2
    · rw [cmF_end h]; exact ⟨hn, hl, hj⟩
theorem cmn_spec {bs : List UInt8} {at_ d : Nat} (h : at_ ≤ bs.length) : cmn bs at_ d ≤ 255 ∧ at_ + cmn bs at_ d ≤ bs.length ∧ ∀ j, j < cmn bs at_ d → bA bs (at_ + j) = bA bs (at_ + j - d) :=
  cmF_spec _ 0 rfl (by omega) h fun j hj => absurd hj (Nat.not_lt_zero _)
/-- the copies at distance d with lengths from l on. -/
def cpL (most d l : Nat) : List Tok := (List.range' l (most + 1 - l)).map fun n => ⟨n, d, 0⟩
def chF (bs : List UInt8) (at_ : Nat) : Nat → Nat → Nat → List Tok
  | 0, _, _ => []
  | k + 1, d, l => cpL (cmn bs at_ d) d l ++ chF bs at_ k (d + 1) (max l (cmn bs at_ d + 1))
def chL (bs : List UInt8) (at_ : Nat) : List Tok := ⟨0, 0, bA bs at_⟩ :: chF bs at_ (min at_ 4096) 1 2
theorem cpL_more {most d l : Nat} (h : l ≤ most) : cpL most d l = ⟨l, d, 0⟩ :: cpL most d (l + 1) := by
  unfold cpL
  obtain ⟨k, hk⟩ : ∃ k, most + 1 - l = k + 1 := ⟨most - l, by omega⟩
  rw [hk, List.range'_succ, List.map_cons, show most + 1 - (l + 1) = k by omega]
theorem cpL_end {most d l : Nat} (h : most < l) : cpL most d l = [] := by unfold cpL; rw [show most + 1 - l = 0 by omega]; rfl
/-- a token that can stand at a place. -/
def TokAt (bs : List UInt8) (at_ : Nat) (t : Tok) : Prop := rightT t = true ∧ t.dst ≤ at_ ∧ at_ + tsz t ≤ bs.length ∧ (t.len = 0 → t.byt = bA bs at_) ∧ (∀ j, j < t.len → bA bs (at_ + j) = bA bs (at_ + j - t.dst))
theorem cpL_at {bs : List UInt8} {at_ d l : Nat} (ha : at_ ≤ bs.length) (hl : 2 ≤ l) (hd : 1 ≤ d) (hda : d ≤ at_) (hd4 : d ≤ 4096) : ∀ t ∈ cpL (cmn bs at_ d) d l, TokAt bs at_ t := by
  intro t ht
  obtain ⟨n, hn, rfl⟩ := List.mem_map.1 ht
  rw [List.mem_range'_1] at hn
  obtain ⟨h1, h2, h3⟩ := cmn_spec (bs := bs) (at_ := at_) (d := d) ha
  refine ⟨?_, hda, ?_, fun h => ?_, fun j hj => h3 j ?_⟩
  · have h0 : ¬ n = 0 := by omega
    show rightT ⟨n, d, 0⟩ = true
    simp only [rightT, if_neg h0, decide_eq_true_eq]
    exact ⟨trivial, by omega, by omega, hd, hd4⟩
  · show at_ + max n 1 ≤ _
    omega
  · have : n = 0 := h
    omega
  · have : j < n := hj
    omega
theorem chF_at {bs : List UInt8} {at_ : Nat} (ha : at_ ≤ bs.length) : ∀ (k d l : Nat), 2 ≤ l → 1 ≤ d → d + k ≤ min at_ 4096 + 1 → ∀ t ∈ chF bs at_ k d l, TokAt bs at_ t
  | 0, _, _, _, _, _, t, ht => by cases ht
  | k + 1, d, l, hl, hd, hk, t, ht => by
    rw [chF, List.mem_append] at ht
    rcases ht with ht | ht
    · exact cpL_at ha hl hd (by omega) (by omega) t ht
    · exact chF_at ha k (d + 1) _ (by omega) (by omega) (by omega) t ht
theorem chL_at {bs : List UInt8} {at_ : Nat} (ha : at_ < bs.length) : ∀ t ∈ chL bs at_, TokAt bs at_ t := by
  intro t ht
  unfold chL at ht
  rw [List.mem_cons] at ht
  rcases ht with rfl | ht
  · exact ⟨rfl, Nat.zero_le _, by show at_ + max 0 1 ≤ _; omega, fun _ => rfl, fun j hj => absurd hj (Nat.not_lt_zero _)⟩
  · exact chF_at (by omega) _ _ _ (by omega) (by omega) (by omega) t ht
/-- the cheapest token of a list, the last one of several: its cost, it. -/
def stB (f : Tok → Int) : List Tok → Int × Tok → Int × Tok
  | [], s => s
  | t :: r, s => stB f r (if s.1 < 0 ∨ f t ≤ s.1 then (f t, t) else s)
def best0 : Int × Tok := (-1, ⟨0, 0, 0⟩)
def bestP (f : Tok → Int) (l : List Tok) : Int × Tok := stB f l best0
theorem stB_append (f : Tok → Int) : ∀ (l m : List Tok) (s : Int × Tok), stB f (l ++ m) s = stB f m (stB f l s)
  | [], _, _ => rfl
  | t :: r, m, s => by rw [List.cons_append, stB, stB_append f r m]; rfl
theorem stB_mem (f : Tok → Int) (hf : ∀ t, 0 ≤ f t) : ∀ (l : List Tok) (s : Int × Tok), (stB f l s = s) ∨ ((stB f l s).2 ∈ l ∧ (stB f l s).1 = f (stB f l s).2)
  | [], s => .inl rfl
  | t :: r, s => by
    rw [stB]
    rcases stB_mem f hf r (if s.1 < 0 ∨ f t ≤ s.1 then (f t, t) else s) with h | h
    · rw [h]
      by_cases hc : s.1 < 0 ∨ f t ≤ s.1
      · rw [if_pos hc]; exact .inr ⟨List.mem_cons_self .., rfl⟩
      · rw [if_neg hc]; exact .inl rfl
    · exact .inr ⟨List.mem_cons_of_mem _ h.1, h.2⟩
theorem best_mem (f : Tok → Int) (hf : ∀ t, 0 ≤ f t) {l : List Tok} (hl : l ≠ []) : (bestP f l).2 ∈ l ∧ (bestP f l).1 = f (bestP f l).2 := by
  unfold bestP
  cases l with
  | nil => exact absurd rfl hl
  | cons t r =>
    rw [stB, if_pos (.inl (by decide))]
    rcases stB_mem f hf r (f t, t) with h | h
    · rw [h]; exact ⟨List.mem_cons_self .., rfl⟩
    · exact ⟨List.mem_cons_of_mem _ h.1, h.2⟩
/-- potentials and steps of the last k places, the first of them first. -/
def potS (S : List (Int × Tok)) (j : Nat) : Int := match S[j]? with | some x => x.1 | none => 0
def costF (S : List (Int × Tok)) (t : Tok) : Int := priT t + potS S (tsz t - 1)
def solve (bs : List UInt8) : Nat → List (Int × Tok)
  | 0 => []
  | k + 1 => bestP (costF (solve bs k)) (chL bs (bs.length - 1 - k)) :: solve bs k
theorem solve_length (bs : List UInt8) : ∀ k, (solve bs k).length = k
  | 0 => rfl
  | k + 1 => by rw [solve, List.length_cons, solve_length bs k]
def solvP (bs : List UInt8) : List (Int × Tok) := solve bs bs.length
theorem solve_drop (bs : List UInt8) : ∀ (n k : Nat), k ≤ n → (solve bs n).drop (n - k) = solve bs k
  | 0, k, h => by obtain rfl : k = 0 := by omega
                  rfl
  | n + 1, k, h => by
    by_cases e : k = n + 1
    · subst e; rw [Nat.sub_self]; rfl
    · rw [show n + 1 - k = (n - k) + 1 by omega, solve, List.drop_succ_cons, solve_drop bs n k (by omega)]
/-- the potential of a place, the step at it. -/
def potAt (bs : List UInt8) (i : Nat) : Int := potS (solvP bs) i
def stepAt (bs : List UInt8) (i : Nat) : Tok := ((solvP bs).getD i best0).2
theorem solv_at {bs : List UInt8} {i : Nat} (hi : i < bs.length) : (solvP bs)[i]? = some (bestP (costF (solve bs (bs.length - 1 - i))) (chL bs i)) := by
  have h := solve_drop bs bs.length (bs.length - i) (by omega)
  rw [show bs.length - (bs.length - i) = i by omega, show bs.length - i = (bs.length - 1 - i) + 1 by omega, solve, show bs.length - 1 - (bs.length - 1 - i) = i by omega] at h
  have e : ((solvP bs).drop i)[0]? = some (bestP (costF (solve bs (bs.length - 1 - i))) (chL bs i)) := by
    unfold solvP
    rw [h]; rfl
  rwa [List.getElem?_drop, Nat.add_zero] at e
theorem potS_lo (S : List (Int × Tok)) (h : ∀ x ∈ S, 0 ≤ x.1) (j : Nat) : 0 ≤ potS S j := by
  unfold potS
  split
  · rename_i x hx
    exact h x (List.mem_of_getElem? hx)
  · exact Int.le_refl _
theorem solve_lo (bs : List UInt8) : ∀ k, ∀ x ∈ solve bs k, 0 ≤ x.1
  | 0, x, hx => by cases hx
  | k + 1, x, hx => by
    have ih := solve_lo bs k
    rw [solve, List.mem_cons] at hx
    rcases hx with rfl | hx
    · have hf : ∀ t, 0 ≤ costF (solve bs k) t := fun t => by
        have h1 := pri_lo t
        have h2 := potS_lo _ ih (tsz t - 1)
        unfold costF
        omega
      rw [(best_mem _ hf (by unfold chL; simp)).2]
      exact hf _
    · exact ih x hx
theorem cost_lo (bs : List UInt8) (k : Nat) (t : Tok) : 0 ≤ costF (solve bs k) t := by
  have h1 := pri_lo t
  have h2 := potS_lo _ (solve_lo bs k) (tsz t - 1)
  unfold costF
  omega
theorem potS_hi (S : List (Int × Tok)) (B : Int) (hB : 0 ≤ B) (h : ∀ x ∈ S, x.1 ≤ B) (j : Nat) : potS S j ≤ B := by
  unfold potS
  split
  · rename_i x hx
    exact h x (List.mem_of_getElem? hx)
  · exact hB
theorem solve_hi (bs : List UInt8) : ∀ k, ∀ x ∈ solve bs k, x.1 ≤ 41 * (k : Int)
  | 0, x, hx => by cases hx
  | k + 1, x, hx => by
    have ih := solve_hi bs k
    rw [solve, List.mem_cons] at hx
    rcases hx with rfl | hx
    · rw [(best_mem _ (cost_lo bs k) (by unfold chL; simp)).2]
      generalize (bestP (costF (solve bs k)) (chL bs (bs.length - 1 - k))).2 = t
      have h1 := pri_hi t
      have h2 := potS_hi _ (41 * (k : Int)) (by omega) ih (tsz t - 1)
      unfold costF
      omega
    · have := ih x hx; omega
/-- steps can stand where they stand. -/
theorem step_at {bs : List UInt8} {i : Nat} (hi : i < bs.length) : TokAt bs i (stepAt bs i) := by
  unfold stepAt
  rw [List.getD_eq_getElem?_getD, solv_at hi]
  exact chL_at hi _ (best_mem _ (cost_lo bs _) (by unfold chL; simp)).1
theorem tsz_pos (t : Tok) : 1 ≤ tsz t := by unfold tsz; omega
/-- the optimal factorization from a place on. -/
def optF (bs : List UInt8) (i : Nat) : List Tok := if h : i < bs.length then stepAt bs i :: optF bs (i + tsz (stepAt bs i)) else []
  termination_by bs.length - i
  decreasing_by have := tsz_pos (stepAt bs i); omega
def optL (bs : List UInt8) : List Tok := optF bs 0
theorem optF_more {bs : List UInt8} {i : Nat} (h : i < bs.length) : optF bs i = stepAt bs i :: optF bs (i + tsz (stepAt bs i)) := by rw [optF, dif_pos h]
theorem optF_end {bs : List UInt8} {i : Nat} (h : bs.length ≤ i) : optF bs i = [] := by rw [optF, dif_neg (by omega)]
/-- the error of a token behind some bytes; of a factorization. -/
def chkT (t : Tok) (before : Nat) : Int := if rightT t = false then 3 else if before < t.dst then 2 else if 65536 < before + tsz t then 5 else 0
def chkF : List Tok → Nat → Int
  | [], _ => 0
  | t :: r, n => if chkT t n = 0 then chkF r (n + tsz t) else chkT t n
def chkL (l : List Tok) : Int := if 65536 < l.length then 6 else chkF l 0
theorem optF_check {bs : List UInt8} (hl : bs.length ≤ 65536) : ∀ (d i : Nat), bs.length - i = d → chkF (optF bs i) i = 0 ∧ (optF bs i).length + i ≤ max bs.length i := by
  intro d
  induction d using Nat.strongRecOn with
  | _ d ih =>
    intro i hd
    by_cases h : i < bs.length
    · obtain ⟨h1, h2, h3, -, -⟩ := step_at h
      have h4 := tsz_pos (stepAt bs i)
      obtain ⟨e1, e2⟩ := ih _ (by omega) (i + tsz (stepAt bs i)) rfl
      have hc : chkT (stepAt bs i) i = 0 := by unfold chkT; rw [h1, if_neg (by simp), if_neg (by omega), if_neg (by omega)]
      rw [optF_more h, chkF, if_pos hc, List.length_cons]
      exact ⟨e1, by omega⟩
    · rw [optF_end (by omega)]; exact ⟨rfl, by simp; omega⟩
theorem opt_check {bs : List UInt8} (hl : bs.length ≤ 65536) : chkL (optL bs) = 0 := by
  obtain ⟨h1, h2⟩ := optF_check hl _ 0 rfl
  unfold chkL optL
  rw [if_neg (by omega)]
  exact h1
/-- the bytes of a factorization, behind some bytes. -/
def copyN (d : Nat) : Nat → List UInt8 → List UInt8
  | 0, out => out
  | k + 1, out => copyN d k (out ++ [bA out (out.length - d)])
def expF : List Tok → List UInt8 → List UInt8
  | [], out => out
  | t :: r, out => expF r (if t.len = 0 then out ++ [t.byt] else copyN t.dst t.len out)
theorem take_bA {bs : List UInt8} {i : Nat} (h : i < bs.length) : bs.take (i + 1) = bs.take i ++ [bA bs i] := by
  have : bA bs i = bs[i] := by unfold bA; rw [List.getD_eq_getElem?_getD, List.getElem?_eq_getElem h]; rfl
  rw [this, List.take_succ_eq_append_getElem h]
theorem bA_take {bs : List UInt8} {i j : Nat} (h : j < i) : bA (bs.take i) j = bA bs j := by
  unfold bA; rw [List.getD_eq_getElem?_getD, List.getElem?_take, if_pos h, List.getD_eq_getElem?_getD]
theorem copy_take {bs : List UInt8} {at_ d : Nat} (hd : 1 ≤ d) (hda : d ≤ at_) : ∀ (k i : Nat), at_ ≤ i → i + k ≤ bs.length → (∀ j, i ≤ j → j < i + k → bA bs j = bA bs (j - d)) → copyN d k (bs.take i) = bs.take (i + k)
  | 0, i, _, _, _ => rfl
  | k + 1, i, hi, hl, h => by
    have hn : (bs.take i).length = i := by rw [List.length_take]; omega
    rw [copyN, hn, bA_take (by omega), ← h i (Nat.le_refl _) (by omega), ← take_bA (by omega), copy_take hd hda k (i + 1) (by omega) (by omega) fun j h1 h2 => h j (by omega) (by omega), show i + 1 + k = i + (k + 1) by omega]
theorem opt_exp {bs : List UInt8} : ∀ (d i : Nat), bs.length - i = d → i ≤ bs.length → expF (optF bs i) (bs.take i) = bs := by
  intro d
  induction d using Nat.strongRecOn with
  | _ d ih =>
    intro i hd hi
    by_cases h : i < bs.length
    · obtain ⟨h1, h2, h3, h4, h5⟩ := step_at h
      have h6 := tsz_pos (stepAt bs i)
      rw [optF_more h, expF]
      by_cases h0 : (stepAt bs i).len = 0
      · rw [if_pos h0, h4 h0, ← take_bA h]
        have e : tsz (stepAt bs i) = 1 := by unfold tsz; omega
        rw [e]
        exact ih _ (by omega) (i + 1) rfl (by omega)
      · have e : tsz (stepAt bs i) = (stepAt bs i).len := by unfold tsz; omega
        have hr := h1
        simp only [rightT, if_neg h0, decide_eq_true_eq] at hr
        rw [if_neg h0, copy_take (at_ := i) hr.2.2.2.1 h2 _ i (Nat.le_refl _) (by omega) fun j hj1 hj2 => by
          have := h5 (j - i) (by omega)
          rwa [show i + (j - i) = j by omega] at this]
        rw [← e]
        exact ih _ (by omega) (i + tsz (stepAt bs i)) rfl (by omega)
    · obtain rfl : i = bs.length := by omega
      rw [optF_end (Nat.le_refl _), expF, List.take_length]
/-- Expand: the bytes, the error. -/
def expandT (l : List Tok) : List UInt8 × Int := if chkL l = 0 then (expF l [], 0) else ([], chkL l)
theorem opt_back {bs : List UInt8} (hl : bs.length ≤ 65536) : expandT (optL bs) = (bs, 0) := by
  unfold expandT
  rw [if_pos (opt_check hl)]
  have := opt_exp (bs := bs) _ 0 rfl (Nat.zero_le _)
  rw [List.take_zero] at this
  rw [show optL bs = optF bs 0 from rfl, this]
end Go.Proofs.YtckkmafppfcecaaGreatDoor
/- The bits of factorizations, plainly: written, packed, read. No program in sight. -/
namespace Go.Proofs.YtckkmafppfcecaaGreatDoor
open Go.RowKit Go.Proofs
set_option linter.unusedVariables false
set_option linter.unusedSimpArgs false

/-- the lowest c bits of n, the highest of them first. -/
def fldB (n c : Nat) : List Bool := (List.range c).map fun j => n.testBit (c - 1 - j)
def gamB (n : Nat) : List Bool := fldB n (2 * nb n - 1)
def tokB (t : Tok) : List Bool := if t.len = 0 then fldB t.byt.toNat 9 else fldB 1 1 ++ gamB (t.len - 1) ++ gamB t.dst
def bitsL : List Tok → List Bool
  | [] => []
  | t :: r => tokB t ++ bitsL r
theorem bitsL_append : ∀ l m : List Tok, bitsL (l ++ m) = bitsL l ++ bitsL m
  | [], _ => rfl
  | t :: r, m => by rw [List.cons_append, bitsL, bitsL_append r m, bitsL, List.append_assoc]
theorem fldB_length (n c : Nat) : (fldB n c).length = c := by simp [fldB]
def b01 (b : Bool) : Nat := if b then 1 else 0
/-- bit i of a list, 0 behind it. -/
def gL (l : List Bool) (i : Nat) : Bool := l.getD i false
/-- byte i of packed bits. -/
def pkB (g : Nat → Bool) (i : Nat) : Nat := b01 (g (8 * i)) * 128 + b01 (g (8 * i + 1)) * 64 + b01 (g (8 * i + 2)) * 32 + b01 (g (8 * i + 3)) * 16 + b01 (g (8 * i + 4)) * 8 + b01 (g (8 * i + 5)) * 4 + b01 (g (8 * i + 6)) * 2 + b01 (g (8 * i + 7))
def pack (l : List Bool) : List UInt8 := (List.range ((l.length + 7) / 8)).map fun i => UInt8.ofNat (pkB (gL l) i)
theorem pack_length (l : List Bool) : (pack l).length = (l.length + 7) / 8 := by simp [pack]
theorem b01_le (b : Bool) : b01 b ≤ 1 := by cases b <;> decide
theorem pkB_lt (g : Nat → Bool) (i : Nat) : pkB g i < 256 := by
  unfold pkB
  have h0 := b01_le (g (8 * i)); have h1 := b01_le (g (8 * i + 1)); have h2 := b01_le (g (8 * i + 2)); have h3 := b01_le (g (8 * i + 3))
  have h4 := b01_le (g (8 * i + 4)); have h5 := b01_le (g (8 * i + 5)); have h6 := b01_le (g (8 * i + 6)); have h7 := b01_le (g (8 * i + 7))
  omega
theorem pack_at {l : List Bool} {i : Nat} (h : i < (l.length + 7) / 8) : bA (pack l) i = UInt8.ofNat (pkB (gL l) i) := by
  unfold pack
  generalize hf : (fun i => UInt8.ofNat (pkB (gL l) i)) = f
  have e : UInt8.ofNat (pkB (gL l) i) = f i := by rw [← hf]
  rw [e]
  simp [bA, List.getD, h]
/-- bit i of bytes. -/
def bitD (bs : List UInt8) (i : Nat) : Bool := (bA bs (i / 8)).toNat.testBit (7 - i % 8)
theorem gL_append {l m : List Bool} {i : Nat} : gL (l ++ m) i = if i < l.length then gL l i else gL m (i - l.length) := by
  unfold gL
  rw [List.getD_eq_getElem?_getD, List.getElem?_append, List.getD_eq_getElem?_getD, List.getD_eq_getElem?_getD]
  split <;> rfl
theorem gL_hi {l : List Bool} {i : Nat} (h : l.length ≤ i) : gL l i = false := by
  unfold gL; rw [List.getD_eq_getElem?_getD, List.getElem?_eq_none h]; rfl
theorem eight : ∀ x0 x1 x2 x3 x4 x5 x6 x7 : Bool, ∀ t : Fin 8, (b01 x0 * 128 + b01 x1 * 64 + b01 x2 * 32 + b01 x3 * 16 + b01 x4 * 8 + b01 x5 * 4 + b01 x6 * 2 + b01 x7).testBit (7 - t.1) = (match t with | 0 => x0 | 1 => x1 | 2 => x2 | 3 => x3 | 4 => x4 | 5 => x5 | 6 => x6 | 7 => x7) := by decide +kernel
theorem pk_test (g : Nat → Bool) (i t : Nat) (ht : t < 8) : (pkB g i).testBit (7 - t) = g (8 * i + t) := by
  have h := eight (g (8 * i)) (g (8 * i + 1)) (g (8 * i + 2)) (g (8 * i + 3)) (g (8 * i + 4)) (g (8 * i + 5)) (g (8 * i + 6)) (g (8 * i + 7)) ⟨t, ht⟩
  unfold pkB
  rcases t with _ | _ | _ | _ | _ | _ | _ | _ | t
  all_goals first | exact h | omega
/-- packed bits are the bits. -/
theorem bitD_pack (l : List Bool) (i : Nat) : bitD (pack l) i = gL l i := by
  unfold bitD
  by_cases h : i / 8 < (l.length + 7) / 8
  · rw [pack_at h, UInt8.toNat_ofNat', Nat.mod_eq_of_lt (pkB_lt _ _), pk_test _ _ _ (Nat.mod_lt _ (by decide)), Nat.div_add_mod]
  · have e : bA (pack l) (i / 8) = 0 := by
      unfold bA
      rw [List.getD_eq_getElem?_getD, List.getElem?_eq_none (by rw [pack_length]; omega)]; rfl
    rw [e, gL_hi (by omega)]
    exact Nat.zero_testBit _
/-- one bit more. -/
theorem pkB_more (l : List Bool) (b : Bool) (i : Nat) : pkB (gL (l ++ [b])) i = if i = l.length / 8 then pkB (gL l) i + b01 b * 2 ^ (7 - l.length % 8) else pkB (gL l) i := by
  have hg : ∀ j, gL (l ++ [b]) j = if j = l.length then b else gL l j := fun j => by
    rw [gL_append]
    rcases Nat.lt_trichotomy j l.length with h | h | h
    · rw [if_pos h, if_neg (by omega)]
    · rw [if_neg (by omega), if_pos h, h, Nat.sub_self]; rfl
    · rw [if_neg (by omega), if_neg (by omega), gL_hi (by simp; omega), gL_hi (by omega)]
  have hb : ∀ j, b01 (gL (l ++ [b]) j) = b01 (gL l j) + if j = l.length then b01 b else 0 := fun j => by
    rw [hg]
    by_cases h : j = l.length
    · rw [if_pos h, if_pos h, h, gL_hi (Nat.le_refl _)]; simp [b01]
    · rw [if_neg h, if_neg h]; rfl
  unfold pkB
  simp only [hb]
  by_cases h : i = l.length / 8
  · rw [if_pos h]
    obtain ⟨r, hr, hr8⟩ : ∃ r, l.length % 8 = r ∧ r < 8 := ⟨_, rfl, Nat.mod_lt _ (by decide)⟩
    have hn : l.length = 8 * i + r := by omega
    rw [hr, hn]
    rcases r with _ | _ | _ | _ | _ | _ | _ | _ | r
    all_goals first | (simp; omega) | omega
  · rw [if_neg h]
    rw [if_neg (by omega), if_neg (by omega), if_neg (by omega), if_neg (by omega), if_neg (by omega), if_neg (by omega), if_neg (by omega), if_neg (by omega)]
    rfl
theorem pack_nil : pack [] = [] := rfl
/-- the value of c bits from place i on. -/
def valB (g : Nat → Bool) (i : Nat) : Nat → Nat
  | 0 => 0
  | c + 1 => 2 * valB g i c + b01 (g (i + c))
theorem valB_lt (g : Nat → Bool) (i : Nat) : ∀ c, valB g i c < 2 ^ c
  | 0 => by simp [valB]
  | c + 1 => by
    have h1 := valB_lt g i c
    have h2 := b01_le (g (i + c))
    rw [valB, Nat.pow_succ]; omega
theorem valB_ext {g g' : Nat → Bool} {i i' : Nat} : ∀ c, (∀ j, j < c → g (i + j) = g' (i' + j)) → valB g i c = valB g' i' c
  | 0, _ => rfl
  | c + 1, h => by rw [valB, valB, valB_ext c fun j hj => h j (by omega), h c (by omega)]
theorem valB_fld {g : Nat → Bool} {i n c : Nat} (hn : n < 2 ^ c) (h : ∀ j, j < c → g (i + j) = n.testBit (c - 1 - j)) : valB g i c = n := by
  have key : ∀ k, k ≤ c → valB g i k = n / 2 ^ (c - k) := by
    intro k
    induction k with
    | zero => intro _; rw [valB, Nat.sub_zero, Nat.div_eq_of_lt hn]
    | succ k ih =>
      intro hk
      rw [valB, ih (by omega), h k (by omega)]
      have e : c - k = (c - (k + 1)) + 1 := by omega
      have e2 : c - 1 - k = c - (k + 1) := by omega
      rw [e, e2, Nat.pow_succ, ← Nat.div_div_eq_div_mul, Nat.testBit_eq_decide_div_mod_eq]
      obtain ⟨m, hm⟩ : ∃ m, m = n / 2 ^ (c - (k + 1)) := ⟨_, rfl⟩
      rw [← hm]
      by_cases hb : m % 2 = 1
      · rw [decide_eq_true hb]; show 2 * (m / 2) + 1 = m; omega
      · rw [decide_eq_false hb]; show 2 * (m / 2) + 0 = m; omega
  have := key c (Nat.le_refl _)
  rwa [Nat.sub_self, Nat.pow_zero, Nat.div_one] at this
/-- reading c bits: N are there. -/
def rdB (g : Nat → Bool) (N i c : Nat) : Except Int Nat := if N < i + c then .error 9 else .ok (valB g i c)
/-- how many zeros stand from place i on. -/
def zB (g : Nat → Bool) (N i : Nat) : Nat := if h : i < N ∧ g i = false then zB g N (i + 1) + 1 else 0
  termination_by N - i
  decreasing_by omega
def rdG (g : Nat → Bool) (N i : Nat) : Except Int (Nat × Nat) :=
  if N ≤ i + zB g N i then .error 9 else if 30 < zB g N i then .error 2 else match rdB g N (i + zB g N i) (zB g N i + 1) with
  | .ok n => .ok (n, i + 2 * zB g N i + 1)
  | .error e => .error e
def rdM (g : Nat → Bool) (N i most : Nat) : Except Int (Nat × Nat) := match rdG g N i with
  | .ok (n, j) => if most < n then .error 2 else .ok (n, j)
  | .error e => .error e
def rdT (g : Nat → Bool) (N i : Nat) : Except Int (Tok × Nat) := match rdB g N i 1 with
  | .error e => .error e
  | .ok 0 => match rdB g N (i + 1) 8 with
    | .ok n => .ok (⟨0, 0, UInt8.ofNat n⟩, i + 9)
    | .error e => .error e
  | .ok (_ + 1) => match rdM g N (i + 1) 254 with
    | .error e => .error e
    | .ok (n, j) => match rdM g N j 4096 with
      | .error e => .error e
      | .ok (d, k) => .ok (⟨n + 1, d, 0⟩, k)
def endB (g : Nat → Bool) (N i : Nat) : Bool := decide (N ≤ i + 7 ∧ valB g i (N - i) = 0)
def decF (g : Nat → Bool) (N i n : Nat) : Except Int (List Tok) :=
  if endB g N i = true then .ok [] else match rdT g N i with
  | .error e => .error e
  | .ok (t, j) => if chkT t n = 0 then (if h : i < j ∧ j ≤ N then (decF g N j (n + tsz t)).map fun r => t :: r else .ok []) else .error (chkT t n)
  termination_by N - i
  decreasing_by omega
theorem rdB_le {g : Nat → Bool} {N i c n : Nat} (h : rdB g N i c = .ok n) : i + c ≤ N ∧ n = valB g i c := by
  unfold rdB at h
  split at h
  · cases h
  · injection h with h; exact ⟨by omega, h.symm⟩
theorem rdG_le {g : Nat → Bool} {N i n j : Nat} (h : rdG g N i = .ok (n, j)) : i < j ∧ j ≤ N := by
  unfold rdG at h
  split at h
  · cases h
  · split at h
    · cases h
    · split at h
      · rename_i hr
        have := (rdB_le hr).1
        injection h with h
        injection h with h1 h2
        omega
      · cases h
theorem rdM_le {g : Nat → Bool} {N i most n j : Nat} (h : rdM g N i most = .ok (n, j)) : i < j ∧ j ≤ N ∧ n ≤ most := by
  unfold rdM at h
  split at h
  · rename_i hr
    have := rdG_le hr
    split at h
    · cases h
    · injection h with h
      injection h with h1 h2
      subst h1 h2
      exact ⟨this.1, this.2, by omega⟩
  · cases h
theorem rdT_le {g : Nat → Bool} {N i j : Nat} {t : Tok} (h : rdT g N i = .ok (t, j)) : i < j ∧ j ≤ N := by
  unfold rdT at h
  split at h
  · cases h
  · split at h
    · rename_i hr
      have := (rdB_le hr).1
      injection h with h
      injection h with h1 h2
      omega
    · cases h
  · split at h
    · cases h
    · rename_i hr
      have h3 := rdM_le hr
      split at h
      · cases h
      · rename_i hr2
        have h4 := rdM_le hr2
        injection h with h
        injection h with h1 h2
        omega
theorem decF_end {g : Nat → Bool} {N i n : Nat} (h : endB g N i = true) : decF g N i n = .ok [] := by rw [decF, if_pos h]
theorem decF_err {g : Nat → Bool} {N i n : Nat} {e : Int} (h : endB g N i = false) (he : rdT g N i = .error e) : decF g N i n = .error e := by rw [decF, if_neg (by rw [h]; decide), he]
theorem decF_bad {g : Nat → Bool} {N i n j : Nat} {t : Tok} (h : endB g N i = false) (he : rdT g N i = .ok (t, j)) (hc : chkT t n ≠ 0) : decF g N i n = .error (chkT t n) := by
  rw [decF, if_neg (by rw [h]; decide), he]
  exact if_neg hc
theorem decF_more {g : Nat → Bool} {N i n j : Nat} {t : Tok} (h : endB g N i = false) (he : rdT g N i = .ok (t, j)) (hc : chkT t n = 0) : decF g N i n = (decF g N j (n + tsz t)).map fun r => t :: r := by
  rw [decF, if_neg (by rw [h]; decide), he]
  show (if chkT t n = 0 then _ else _) = _
  rw [if_pos hc, dif_pos (rdT_le he)]
/-- what is written is read. -/
theorem rdB_fld {g : Nat → Bool} {N i n c : Nat} (hN : i + c ≤ N) (hn : n < 2 ^ c) (h : ∀ j, j < c → g (i + j) = gL (fldB n c) j) : rdB g N i c = .ok n := by
  unfold rdB
  rw [if_neg (by omega), valB_fld hn fun j hj => ?_]
  rw [h j hj]
  unfold gL fldB
  simp [List.getD, hj]
theorem gL_fld {n c j : Nat} (hj : j < c) : gL (fldB n c) j = n.testBit (c - 1 - j) := by
  unfold gL fldB
  simp [List.getD, hj]
theorem nb_bits : ∀ n : Nat, 0 < n → 2 ^ (nb n - 1) ≤ n ∧ n < 2 ^ nb n := by
  intro n
  induction n using Nat.strongRecOn with
  | _ n ih =>
    intro h
    rw [nb, dif_neg (by omega)]
    by_cases h1 : n = 1
    · subst h1
      rw [show (1 : Nat) / 2 = 0 from rfl, nb, dif_pos rfl]
      decide
    · obtain ⟨h2, h3⟩ := ih (n / 2) (by omega) (by omega)
      have h4 := nb_pos (n := n / 2) (by omega)
      obtain ⟨m, hm⟩ : ∃ m, nb (n / 2) = m + 1 := ⟨nb (n / 2) - 1, by omega⟩
      rw [hm] at h2 h3 ⊢
      rw [Nat.add_sub_cancel] at h2 ⊢
      rw [Nat.pow_succ] at h3 ⊢
      constructor <;> omega
theorem zB_run {g : Nat → Bool} {N : Nat} : ∀ (k i : Nat), i + k < N → (∀ j, j < k → g (i + j) = false) → g (i + k) = true → zB g N i = k
  | 0, i, h, _, h2 => by rw [zB, dif_neg (by rintro ⟨-, h3⟩; rw [Nat.add_zero] at h2; rw [h2] at h3; cases h3)]
  | k + 1, i, h, h1, h2 => by
    have := h1 0 (by omega)
    rw [Nat.add_zero] at this
    rw [zB, dif_pos ⟨by omega, this⟩, zB_run k (i + 1) (by omega) (fun j hj => by have := h1 (j + 1) (by omega); rwa [show i + (j + 1) = i + 1 + j by omega] at this) (by rwa [show i + 1 + k = i + (k + 1) by omega])]
theorem rdG_gam {g : Nat → Bool} {N i n : Nat} (hn : 0 < n) (hb : n < 2 ^ 31) (hN : i + (2 * nb n - 1) ≤ N) (h : ∀ j, j < 2 * nb n - 1 → g (i + j) = gL (gamB n) j) : rdG g N i = .ok (n, i + (2 * nb n - 1)) := by
  obtain ⟨h1, h2⟩ := nb_bits n hn
  have h3 := nb_pos hn
  have h4 := nb_lt 31 n hb
  obtain ⟨m, hm⟩ : ∃ m, nb n = m + 1 := ⟨nb n - 1, by omega⟩
  have hg : ∀ j, j < 2 * nb n - 1 → g (i + j) = n.testBit (2 * nb n - 1 - 1 - j) := fun j hj => by rw [h j hj]; exact gL_fld hj
  rw [hm] at hg h2 hN h4 ⊢
  rw [hm, Nat.add_sub_cancel] at h1
  have hz : zB g N i = m := by
    refine zB_run m i (by omega) (fun j hj => ?_) ?_
    · rw [hg j (by omega)]
      refine Nat.testBit_lt_two_pow (Nat.lt_of_lt_of_le h2 (Nat.pow_le_pow_right (by decide) (by omega)))
    · rw [hg m (by omega), show 2 * (m + 1) - 1 - 1 - m = m by omega, Nat.testBit_eq_decide_div_mod_eq]
      have e : n / 2 ^ m = 1 := by
        rw [Nat.pow_succ] at h2
        exact Nat.div_eq_of_lt_le (by omega) (by omega)
      rw [e]; rfl
  have hr : rdB g N (i + m) (m + 1) = .ok n := by
    unfold rdB
    rw [if_neg (by omega), valB_fld h2 fun j hj => ?_]
    rw [Nat.add_assoc, hg (m + j) (by omega)]
    congr 1
    omega
  unfold rdG
  rw [hz, if_neg (by omega), if_neg (by omega), hr]
  show Except.ok (n, i + 2 * m + 1) = _
  rw [show i + 2 * m + 1 = i + (2 * (m + 1) - 1) by omega]
theorem tokB_length {t : Tok} : (tokB t).length = if t.len = 0 then 9 else 1 + (2 * nb (t.len - 1) - 1) + (2 * nb t.dst - 1) := by
  unfold tokB gamB
  split
  · exact fldB_length _ _
  · rw [List.length_append, List.length_append, fldB_length, fldB_length, fldB_length]
theorem rdT_tok {g : Nat → Bool} {N i : Nat} {t : Tok} (hr : rightT t = true) (hN : i + (tokB t).length ≤ N) (h : ∀ j, j < (tokB t).length → g (i + j) = gL (tokB t) j) : rdT g N i = .ok (t, i + (tokB t).length) := by
  have hl := tokB_length (t := t)
  by_cases h0 : t.len = 0
  · simp only [rightT, if_pos h0, decide_eq_true_eq] at hr
    rw [if_pos h0] at hl
    have hb : t.byt.toNat < 2 ^ 8 := t.byt.toNat_lt
    have hg : ∀ j, j < 9 → g (i + j) = t.byt.toNat.testBit (8 - j) := fun j hj => by
      rw [h j (by omega)]
      unfold tokB
      rw [if_pos h0, gL_fld hj]
    have e0 : rdB g N i 1 = .ok 0 := by
      unfold rdB
      rw [if_neg (by omega), valB_fld (n := 0) (by decide) fun j hj => ?_]
      obtain rfl : j = 0 := by omega
      rw [hg 0 (by omega), Nat.zero_testBit]
      exact Nat.testBit_lt_two_pow hb
    have e1 : rdB g N (i + 1) 8 = .ok t.byt.toNat := by
      unfold rdB
      rw [if_neg (by omega), valB_fld hb fun j hj => ?_]
      rw [Nat.add_assoc, hg (1 + j) (by omega)]
      congr 1
      omega
    unfold rdT
    rw [e0]
    show (match rdB g N (i + 1) 8 with | .ok n => Except.ok ((⟨0, 0, UInt8.ofNat n⟩ : Tok), i + 9) | .error e => .error e) = _
    rw [e1, hl]
    show Except.ok ((⟨0, 0, UInt8.ofNat t.byt.toNat⟩ : Tok), i + 9) = _
    rw [UInt8.ofNat_toNat]
    obtain ⟨a, b, c⟩ := t
    simp only at h0 hr
    subst h0 hr
    rfl
  · simp only [rightT, if_neg h0, decide_eq_true_eq] at hr
    obtain ⟨r1, r2, r3, r4, r5⟩ := hr
    rw [if_neg h0] at hl
    have ht : tokB t = fldB 1 1 ++ (gamB (t.len - 1) ++ gamB t.dst) := by unfold tokB; rw [if_neg h0, List.append_assoc]
    have hA : (gamB (t.len - 1)).length = 2 * nb (t.len - 1) - 1 := fldB_length _ _
    have hf : (fldB 1 1).length = 1 := fldB_length _ _
    have e0 : rdB g N i 1 = .ok 1 := by
      refine rdB_fld (by omega) (by decide) fun j hj => ?_
      rw [h j (by omega), ht, gL_append, if_pos (by omega)]
    have p1 := nb_pos (n := t.len - 1) (by omega)
    have p2 := nb_pos (n := t.dst) (by omega)
    have e1 : rdG g N (i + 1) = .ok (t.len - 1, i + 1 + (2 * nb (t.len - 1) - 1)) := by
      refine rdG_gam (by omega) (by omega) (by omega) fun j hj => ?_
      rw [Nat.add_assoc, h (1 + j) (by omega), ht, gL_append, if_neg (by omega), hf, Nat.add_sub_cancel_left, gL_append, if_pos (by omega)]
    have e2 : rdG g N (i + 1 + (2 * nb (t.len - 1) - 1)) = .ok (t.dst, i + 1 + (2 * nb (t.len - 1) - 1) + (2 * nb t.dst - 1)) := by
      refine rdG_gam (by omega) (by omega) (by omega) fun j hj => ?_
      rw [show i + 1 + (2 * nb (t.len - 1) - 1) + j = i + (1 + (2 * nb (t.len - 1) - 1) + j) by omega, h _ (by omega), ht, gL_append, if_neg (by omega), hf, gL_append, if_neg (by omega), hA]
      congr 1
      omega
    have m1 : rdM g N (i + 1) 254 = .ok (t.len - 1, i + 1 + (2 * nb (t.len - 1) - 1)) := by unfold rdM; rw [e1]; exact if_neg (by omega)
    have m2 : rdM g N (i + 1 + (2 * nb (t.len - 1) - 1)) 4096 = .ok (t.dst, i + 1 + (2 * nb (t.len - 1) - 1) + (2 * nb t.dst - 1)) := by unfold rdM; rw [e2]; exact if_neg (by omega)
    unfold rdT
    rw [e0]
    show (match rdM g N (i + 1) 254 with | .error e => Except.error e | .ok (n, j) => match rdM g N j 4096 with | .error e => .error e | .ok (d, k) => .ok ((⟨n + 1, d, 0⟩ : Tok), k)) = _
    rw [m1]
    show (match rdM g N (i + 1 + (2 * nb (t.len - 1) - 1)) 4096 with | .error e => Except.error e | .ok (d, k) => .ok ((⟨t.len - 1 + 1, d, 0⟩ : Tok), k)) = _
    rw [m2, hl]
    show Except.ok ((⟨t.len - 1 + 1, t.dst, 0⟩ : Tok), _) = _
    obtain ⟨a, b, c⟩ := t
    simp only at h0 r1 ⊢
    rw [show a - 1 + 1 = a by omega, r1, show i + 1 + (2 * nb (a - 1) - 1) + (2 * nb b - 1) = i + (1 + (2 * nb (a - 1) - 1) + (2 * nb b - 1)) by omega]
theorem valB_pos {g : Nat → Bool} {i : Nat} : ∀ (c : Nat), 0 < c → g i = true → valB g i c ≠ 0
  | 0, h, _ => absurd h (Nat.lt_irrefl _)
  | 1, _, h => by rw [valB, valB, Nat.add_zero, h]; decide
  | c + 2, _, h => by
    have := valB_pos (c + 1) (by omega) h
    rw [valB]; omega
/-- factorizations are read back. -/
theorem dec_back (N : Nat) (g : Nat → Bool) : ∀ (l : List Tok) (i n : Nat), chkF l n = 0 → i + (bitsL l).length ≤ N → N ≤ i + (bitsL l).length + 7 → (∀ j, i + j < N → g (i + j) = gL (bitsL l) j) → decF g N i n = .ok l
  | [], i, n, _, h1, h2, hg => by
    refine decF_end (decide_eq_true ⟨by simpa [bitsL] using h2, ?_⟩)
    have key : ∀ c, i + c ≤ N → valB g i c = 0 := by
      intro c
      induction c with
      | zero => intro _; rfl
      | succ c ih =>
        intro hc
        rw [valB, ih (by omega), hg c (by omega)]
        rfl
    exact key (N - i) (by simp [bitsL] at h1; omega)
  | t :: r, i, n, hc, h1, h2, hg => by
    rw [chkF] at hc
    split at hc
    · rename_i hct
      have hr : rightT t = true := by
        cases hq : rightT t with
        | true => rfl
        | false => unfold chkT at hct; rw [hq, if_pos rfl] at hct; cases hct
      rw [bitsL, List.length_append] at h1 h2
      have hT := rdT_tok (g := g) (N := N) (i := i) hr (by omega) fun j hj => by
        rw [hg j (by omega), bitsL, gL_append, if_pos hj]
      have hlen := tokB_length (t := t)
      have hE : endB g N i = false := by
        refine decide_eq_false ?_
        rintro ⟨e1, e2⟩
        by_cases h0 : t.len = 0
        · rw [if_pos h0] at hlen; omega
        · rw [if_neg h0] at hlen
          refine valB_pos (N - i) (by omega) ?_ e2
          have := hg 0 (by omega)
          rw [Nat.add_zero] at this
          rw [this, bitsL, gL_append, if_pos (by omega)]
          unfold tokB
          rw [if_neg h0, List.append_assoc, gL_append, if_pos (by rw [fldB_length]; omega)]
          rfl
      rw [decF_more hE hT hct, dec_back N g r (i + (tokB t).length) (n + tsz t) hc (by omega) (by omega) fun j hj => ?_]
      · rfl
      · rw [Nat.add_assoc, hg _ (by omega), bitsL, gL_append, if_neg (by omega), Nat.add_sub_cancel_left]
    · exact absurd hc (by assumption)
/-- Encode, Decode, Forward, Inverse: results, errors. -/
def sumP (l : List Tok) : Int := (l.map priT).sum
def encT (l : List Tok) : List UInt8 × Int := if chkL l = 0 then (if 524288 < sumP l then ([], 5) else (pack (bitsL l), 0)) else ([], chkL l)
def decT (bs : List UInt8) : Except Int (List Tok) := if 65536 < bs.length then .error 5 else decF (bitD bs) (8 * bs.length) 0 0
def lzF (bs : List UInt8) : List UInt8 × Int := if 65536 < bs.length then ([], 5) else encT (optL bs)
def lzI (bs : List UInt8) : List UInt8 × Int := match decT bs with | .ok l => expandT l | .error e => ([], e)
theorem chkF_right : ∀ (l : List Tok) (n : Nat), chkF l n = 0 → ∀ t ∈ l, rightT t = true
  | [], _, _, t, ht => by cases ht
  | s :: r, n, h, t, ht => by
    rw [chkF] at h
    split at h
    · rename_i hct
      rw [List.mem_cons] at ht
      rcases ht with rfl | ht
      · cases hq : rightT t with
        | true => rfl
        | false => unfold chkT at hct; rw [hq, if_pos rfl] at hct; cases hct
      · exact chkF_right r _ h t ht
    · exact absurd h (by assumption)
theorem tokB_price {t : Tok} (h : rightT t = true) : ((tokB t).length : Int) = priT t := by
  rw [tokB_length]
  have hp : priT t = if t.len = 0 then 9 else 1 + gmB (t.len - 1) + gmB t.dst := by unfold priT; rw [h]; rfl
  rw [hp]
  by_cases h0 : t.len = 0
  · rw [if_pos h0, if_pos h0]; rfl
  · rw [if_neg h0, if_neg h0]
    simp only [rightT, if_neg h0, decide_eq_true_eq] at h
    have p1 := nb_pos (n := t.len - 1) (by omega)
    have p2 := nb_pos (n := t.dst) (by omega)
    unfold gmB
    omega
theorem bits_price : ∀ (l : List Tok), (∀ t ∈ l, rightT t = true) → ((bitsL l).length : Int) = sumP l
  | [], _ => rfl
  | t :: r, h => by
    have h1 := bits_price r fun s hs => h s (List.mem_cons_of_mem _ hs)
    have h2 := tokB_price (h t (List.mem_cons_self ..))
    unfold sumP at h1 ⊢
    rw [bitsL, List.length_append, List.map_cons, List.sum_cons, ← h1, ← h2]
    rfl
/-- what Forward writes Inverse reads. -/
theorem lz_back {bs : List UInt8} (h : (lzF bs).2 = 0) : lzI (lzF bs).1 = (bs, 0) := by
  unfold lzF at h ⊢
  by_cases h1 : 65536 < bs.length
  · rw [if_pos h1] at h; cases h
  · rw [if_neg h1] at h ⊢
    have hck := opt_check (bs := bs) (by omega)
    unfold encT at h ⊢
    rw [if_pos hck] at h ⊢
    by_cases h2 : 524288 < sumP (optL bs)
    · rw [if_pos h2] at h; cases h
    · rw [if_neg h2]
      have hcF : chkF (optL bs) 0 = 0 := (optF_check (by omega) _ 0 rfl).1
      have hb := bits_price (optL bs) (chkF_right _ _ hcF)
      have hpl := pack_length (bitsL (optL bs))
      have hd : decT (pack (bitsL (optL bs))) = .ok (optL bs) := by
        unfold decT
        rw [if_neg (by omega)]
        exact dec_back _ _ _ 0 0 hcF (by omega) (by omega) fun j _ => by rw [Nat.zero_add]; exact bitD_pack _ _
      unfold lzI
      show (match decT (pack (bitsL (optL bs))) with | .ok l => expandT l | .error e => ([], e)) = _
      rw [hd]
      exact opt_back (by omega)
end Go.Proofs.YtckkmafppfcecaaGreatDoor
/- Plain functions and laws about lists: longest common prefixes, permutations, ranks. No program in sight. -/
namespace Go.Proofs.YtckkmafppfcecaaGreatDoor.Bwt
set_option linter.unusedVariables false

def lcp : List UInt8 → List UInt8 → Nat
  | a :: x, b :: y => if a = b then lcp x y + 1 else 0
  | _, _ => 0

theorem gb_eq_iff {bs : List UInt8} {i j : Nat} (hi : i < bs.length) (hj : j < bs.length) : gb bs i = gb bs j ↔ bs[i] = bs[j] := by
  unfold gb
  simp only [List.getD, List.getElem?_eq_getElem hi, List.getElem?_eq_getElem hj, Option.getD_some]
  constructor
  · intro h; exact UInt8.toNat_inj.1 (by omega)
  · intro h; rw [h]

/-- k more bytes in common, then lcp of the rests. -/
theorem lcp_step (bs : List UInt8) (p q : Nat) : ∀ k, (∀ j, j < k → p + j < bs.length ∧ q + j < bs.length ∧ gb bs (p + j) = gb bs (q + j)) →
    lcp (bs.drop p) (bs.drop q) = k + lcp (bs.drop (p + k)) (bs.drop (q + k))
  | 0, _ => by simp
  | k + 1, h => by
    rw [lcp_step bs p q k (fun j hj => h j (by omega))]
    obtain ⟨h1, h2, h3⟩ := h k (by omega)
    have e := (gb_eq_iff h1 h2).1 h3
    rw [List.drop_eq_getElem_cons h1, List.drop_eq_getElem_cons h2, lcp, if_pos e]
    simp only [Nat.add_assoc]
    omega

theorem lcp_end (bs : List UInt8) (p q k : Nat) (h : ∀ j, j < k → p + j < bs.length ∧ q + j < bs.length ∧ gb bs (p + j) = gb bs (q + j))
    (hk : p + k < bs.length → q + k < bs.length → gb bs (p + k) ≠ gb bs (q + k)) : lcp (bs.drop p) (bs.drop q) = k := by
  rw [lcp_step bs p q k h]
  suffices hs : lcp (bs.drop (p + k)) (bs.drop (q + k)) = 0 by omega
  by_cases h1 : p + k < bs.length
  · by_cases h2 : q + k < bs.length
    · have := hk h1 h2
      rw [List.drop_eq_getElem_cons h1, List.drop_eq_getElem_cons h2, lcp, if_neg (fun e => this ((gb_eq_iff h1 h2).2 e))]
    · rw [List.drop_of_length_le (by omega : bs.length ≤ q + k)]
      cases bs.drop (p + k) <;> rfl
  · rw [List.drop_of_length_le (by omega : bs.length ≤ p + k)]
    rfl

def permErrL (n : Nat) : List Int → List Int → Int
  | _, [] => 0
  | seen, z :: zs => if z < 0 ∨ (n : Int) ≤ z then 2 else if z ∈ seen then 8 else permErrL n (seen ++ [z]) zs
/-- The error of a list of places: 2, 8 or 0. -/
def permErr (zs : List Int) : Int := permErrL zs.length [] zs

theorem gi_get {zs : List Int} {k : Nat} (hk : k < zs.length) : gi zs k = zs[k] := by simp [gi, List.getD, hk]
theorem drop_gi {zs : List Int} {k : Nat} (hk : k < zs.length) : zs.drop k = gi zs k :: zs.drop (k + 1) := by rw [gi_get hk]; exact List.drop_eq_getElem_cons hk
theorem take_gi {zs : List Int} {k : Nat} (hk : k < zs.length) : zs.take (k + 1) = zs.take k ++ [gi zs k] := by rw [gi_get hk, List.take_succ_eq_append_getElem hk]

theorem permErr_range {zs : List Int} {n k : Nat} (hk : k < zs.length) (h : gi zs k < 0 ∨ (n : Int) ≤ gi zs k) : permErrL n (zs.take k) (zs.drop k) = 2 := by
  rw [drop_gi hk, permErrL, if_pos h]
theorem permErr_twice {zs : List Int} {n k : Nat} (hk : k < zs.length) (h0 : 0 ≤ gi zs k) (h1 : gi zs k < n) (h : gi zs k ∈ zs.take k) : permErrL n (zs.take k) (zs.drop k) = 8 := by
  rw [drop_gi hk, permErrL, if_neg (by omega), if_pos h]
theorem permErr_next {zs : List Int} {n k : Nat} (hk : k < zs.length) (h0 : 0 ≤ gi zs k) (h1 : gi zs k < n) (h : gi zs k ∉ zs.take k) : permErrL n (zs.take k) (zs.drop k) = permErrL n (zs.take (k + 1)) (zs.drop (k + 1)) := by
  rw [drop_gi hk, permErrL, if_neg (by omega), if_neg h, take_gi hk]
theorem permErr_done {zs : List Int} {n : Nat} : permErrL n (zs.take zs.length) (zs.drop zs.length) = 0 := by simp [permErrL]
theorem permErr_done' {zs : List Int} {n k : Nat} (h : zs.length ≤ k) : permErrL n (zs.take k) (zs.drop k) = 0 := by
  rw [List.drop_of_length_le h]; rfl
theorem permErr_start (zs : List Int) : permErrL zs.length (zs.take 0) (zs.drop 0) = permErr zs := by simp [permErr]

theorem permErr_vals (n : Nat) : ∀ zs seen, permErrL n seen zs = 0 ∨ permErrL n seen zs = 2 ∨ permErrL n seen zs = 8
  | [], _ => .inl rfl
  | z :: zs, seen => by
    unfold permErrL
    split
    · exact .inr (.inl rfl)
    · split
      · exact .inr (.inr rfl)
      · exact permErr_vals n zs _

/-- What is known of a list without an error. -/
theorem permErrL_zero (n : Nat) : ∀ zs seen, permErrL n seen zs = 0 → (∀ z ∈ zs, 0 ≤ z ∧ z < n) ∧ zs.Nodup ∧ ∀ z ∈ zs, z ∉ seen
  | [], _, _ => ⟨fun z hz => absurd hz (by simp), List.nodup_nil, fun z hz => absurd hz (by simp)⟩
  | z :: zs, seen, h => by
    rw [permErrL] at h
    by_cases h1 : z < 0 ∨ (n : Int) ≤ z
    · rw [if_pos h1] at h; omega
    · rw [if_neg h1] at h
      by_cases h2 : z ∈ seen
      · rw [if_pos h2] at h; omega
      · rw [if_neg h2] at h
        obtain ⟨g1, g2, g3⟩ := permErrL_zero n zs _ h
        refine ⟨fun y hy => ?_, List.nodup_cons.2 ⟨fun hz => g3 z hz (by simp), g2⟩, fun y hy => ?_⟩
        · rcases List.mem_cons.1 hy with rfl | hy
          · omega
          · exact g1 y hy
        · rcases List.mem_cons.1 hy with rfl | hy
          · exact h2
          · exact fun hs => g3 y hy (by simp [hs])

theorem permErrL_ok (n : Nat) : ∀ (zs seen : List Int), (∀ z ∈ zs, 0 ≤ z ∧ z < n) → zs.Nodup → (∀ z ∈ zs, z ∉ seen) → permErrL n seen zs = 0
  | [], _, _, _, _ => rfl
  | z :: zs, seen, h1, h2, h3 => by
    rw [permErrL, if_neg (by have := h1 z (by simp); omega), if_neg (h3 z (by simp))]
    have h2' := List.nodup_cons.1 h2
    refine permErrL_ok n zs (seen ++ [z]) (fun y hy => h1 y (by simp [hy])) h2'.2 (fun y hy hs => ?_)
    rcases List.mem_append.1 hs with hs | hs
    · exact h3 y (by simp [hy]) hs
    · simp at hs; subst hs; exact h2'.1 hy
theorem permErr_zero_iff (zs : List Int) : permErr zs = 0 ↔ (∀ z ∈ zs, 0 ≤ z ∧ z < zs.length) ∧ zs.Nodup :=
  ⟨fun h => let ⟨a, b, _⟩ := permErrL_zero _ _ _ h; ⟨a, b⟩, fun ⟨a, b⟩ => permErrL_ok _ _ _ a b (fun _ _ h => by simp at h)⟩

/-- seen after k rounds. -/
def seenL (zs : List Int) (n k : Nat) : List Bool := (List.range n).map fun j : Nat => decide ((j : Int) ∈ zs.take k)
def gt (bs : List Bool) (k : Nat) : Bool := bs.getD k false
theorem seenL_length (zs : List Int) (n k : Nat) : (seenL zs n k).length = n := by simp [seenL]
theorem seenL_zero (zs : List Int) (n : Nat) : seenL zs n 0 = List.replicate n false := by
  apply List.ext_getElem <;> simp [seenL]
theorem gt_seenL {zs : List Int} {n k : Nat} {z : Int} (h0 : 0 ≤ z) (h1 : z < n) : gt (seenL zs n k) z.toNat = decide (z ∈ zs.take k) := by
  have : z.toNat < n := by omega
  simp [gt, seenL, List.getD, this, Int.toNat_of_nonneg h0]
theorem seenL_next {zs : List Int} {n k : Nat} (hk : k < zs.length) (h0 : 0 ≤ gi zs k) (h1 : gi zs k < n) : (seenL zs n k).set (gi zs k).toNat true = seenL zs n (k + 1) := by
  apply List.ext_getElem
  · simp [seenL]
  intro i h2 h3
  have hi : i < n := by simpa [seenL] using h3
  rw [List.getElem_set]
  simp only [seenL, List.getElem_map, List.getElem_range]
  rw [take_gi hk]
  by_cases e : (gi zs k).toNat = i
  · rw [if_pos e]
    symm
    apply decide_eq_true
    have : (i : Int) = gi zs k := by omega
    simp [this]
  · rw [if_neg e]
    have : ¬ (i : Int) = gi zs k := by omega
    simp [this]

/-- the rows of places after k rounds; d where there is none yet. -/
def rankL (d : Int) (zs : List Int) (n k : Nat) : List Int := (List.range n).map fun j : Nat => if (j : Int) ∈ zs.take k then ((zs.idxOf (j : Int) : Nat) : Int) else d
def ranksL (zs : List Int) : List Int := (List.range zs.length).map fun j : Nat => ((zs.idxOf (j : Int) : Nat) : Int)
theorem rankL_length (d : Int) (zs : List Int) (n k : Nat) : (rankL d zs n k).length = n := by simp [rankL]
theorem rankL_zero (d : Int) (zs : List Int) (n : Nat) : rankL d zs n 0 = List.replicate n d := by
  apply List.ext_getElem <;> simp [rankL]
theorem gi_rankL {d : Int} {zs : List Int} {n k : Nat} {z : Int} (h0 : 0 ≤ z) (h1 : z < n) : gi (rankL d zs n k) z.toNat = if z ∈ zs.take k then ((zs.idxOf z : Nat) : Int) else d := by
  have : z.toNat < n := by omega
  simp [gi, rankL, List.getD, this, Int.toNat_of_nonneg h0]
theorem idxOf_fresh {zs : List Int} {k : Nat} (hk : k < zs.length) (h : gi zs k ∉ zs.take k) : zs.idxOf (gi zs k) = k := by
  have e : zs = zs.take k ++ gi zs k :: zs.drop (k + 1) := by rw [← drop_gi hk, List.take_append_drop]
  have hl : (zs.take k).length = k := by simp; omega
  have h2 : (zs.take k ++ gi zs k :: zs.drop (k + 1)).idxOf (gi zs k) = k := by
    rw [List.idxOf_append, if_neg h, hl, List.idxOf_cons_self]
    omega
  rwa [← e] at h2
theorem rankL_next {d : Int} {zs : List Int} {n k : Nat} (hk : k < zs.length) (h0 : 0 ≤ gi zs k) (h1 : gi zs k < n) (h : gi zs k ∉ zs.take k) : (rankL d zs n k).set (gi zs k).toNat (k : Int) = rankL d zs n (k + 1) := by
  apply List.ext_getElem
  · simp [rankL]
  intro i h2 h3
  have hi : i < n := by simpa [rankL] using h3
  rw [List.getElem_set]
  simp only [rankL, List.getElem_map, List.getElem_range]
  rw [take_gi hk]
  by_cases e : (gi zs k).toNat = i
  · rw [if_pos e]
    have : (i : Int) = gi zs k := by omega
    rw [this, if_pos (by simp), idxOf_fresh hk h]
  · rw [if_neg e]
    have : ¬ (i : Int) = gi zs k := by omega
    simp [this]

theorem nodup_le : ∀ (n : Nat) (l : List Nat), l.Nodup → (∀ x ∈ l, x < n) → l.length ≤ n
  | 0, l, _, h => by
    cases l with
    | nil => simp
    | cons x xs => have := h x (by simp); omega
  | n + 1, l, hd, h => by
    by_cases hm : n ∈ l
    · have h1 := nodup_le n (l.erase n) (hd.sublist List.erase_sublist) (fun x hx => by
        have h2 := (hd.mem_erase_iff).1 hx
        have := h x h2.2
        have := h2.1
        omega)
      rw [List.length_erase_of_mem hm] at h1
      omega
    · have := nodup_le n l hd (fun x hx => by
        have := h x hx
        have : x ≠ n := fun e => hm (e ▸ hx)
        omega)
      omega
theorem perm_all_mem {zs : List Int} (h : permErr zs = 0) {j : Nat} (hj : j < zs.length) : (j : Int) ∈ zs := by
  obtain ⟨h1, h2⟩ := (permErr_zero_iff zs).1 h
  -- a pigeonhole: zs has no two alike and lies within range
  have hsub : (zs.map Int.toNat).Nodup := by
    rw [List.nodup_iff_pairwise_ne, List.pairwise_map]
    refine List.Pairwise.imp_of_mem ?_ (List.nodup_iff_pairwise_ne.1 h2)
    intro a b ha hb hab e
    have := h1 a ha; have := h1 b hb
    omega
  have hle : ∀ x ∈ zs.map Int.toNat, x < zs.length := by
    intro x hx
    obtain ⟨z, hz, rfl⟩ := List.mem_map.1 hx
    have := h1 z hz
    omega
  have hm : j ∈ zs.map Int.toNat := by
    rcases Classical.em (j ∈ zs.map Int.toNat) with hm | hm
    · exact hm
    · have := nodup_le zs.length (j :: zs.map Int.toNat) (List.nodup_cons.2 ⟨hm, hsub⟩) (fun x hx => by
        rcases List.mem_cons.1 hx with rfl | hx
        · exact hj
        · exact hle x hx)
      simp at this
      omega
  obtain ⟨z, hz, e⟩ := List.mem_map.1 hm
  have := h1 z hz
  have : z = (j : Int) := by omega
  exact this ▸ hz

theorem rankL_done {d : Int} {zs : List Int} (h : permErr zs = 0) : rankL d zs zs.length zs.length = ranksL zs := by
  apply List.ext_getElem
  · simp [rankL, ranksL]
  intro i h2 h3
  have hi : i < zs.length := by simpa [ranksL] using h3
  simp only [rankL, ranksL, List.getElem_map, List.getElem_range]
  rw [if_pos (by simpa using perm_all_mem h hi)]

/-- the suffix at a place. -/
def sfx (bs : List UInt8) (z : Int) : List UInt8 := bs.drop z.toNat
def less (x y : List UInt8) : Bool := Op.bytesLess x y

def ascB (bs : List UInt8) (zs : List Int) : Bool := (List.range (zs.length - 1)).all fun i => less (sfx bs (gi zs i)) (sfx bs (gi zs (i + 1)))
theorem ascB_true {bs : List UInt8} {zs : List Int} (h : ∀ i, i + 1 < zs.length → less (sfx bs (gi zs i)) (sfx bs (gi zs (i + 1))) = true) : ascB bs zs = true := by
  unfold ascB
  rw [List.all_eq_true]
  intro i hi
  exact h i (by simp at hi; omega)
theorem ascB_false {bs : List UInt8} {zs : List Int} {i : Nat} (hi : i + 1 < zs.length) (h : less (sfx bs (gi zs i)) (sfx bs (gi zs (i + 1))) = false) : ascB bs zs = false := by
  unfold ascB
  rw [List.all_eq_false]
  exact ⟨i, by simp; omega, by simp [h]⟩

/-- the error of Check. -/
def checkErr (bs : List UInt8) (zs : List Int) : Int :=
  if 65536 < bs.length then 5 else if zs.length ≠ bs.length + 1 then 6 else if permErr zs ≠ 0 then permErr zs else if ascB bs zs then 0 else 29

theorem checkErr_zero {bs : List UInt8} {zs : List Int} (h : checkErr bs zs = 0) : bs.length ≤ 65536 ∧ zs.length = bs.length + 1 ∧ permErr zs = 0 ∧ ascB bs zs = true := by
  unfold checkErr at h
  by_cases h1 : 65536 < bs.length
  · rw [if_pos h1] at h; omega
  rw [if_neg h1] at h
  by_cases h2 : zs.length ≠ bs.length + 1
  · rw [if_pos h2] at h; omega
  rw [if_neg h2] at h
  by_cases h3 : permErr zs ≠ 0
  · rw [if_pos h3] at h; exact absurd h h3
  rw [if_neg h3] at h
  cases h4 : ascB bs zs with
  | true => exact ⟨by omega, by omega, by omega, rfl⟩
  | false => rw [h4] at h; simp at h

def commonF (bs : List UInt8) (zs : List Int) (i : Nat) : Int := if i = 0 then 0 else lcp (sfx bs (gi zs (i - 1))) (sfx bs (gi zs i))
def commonTo (bs : List UInt8) (zs : List Int) (k : Nat) : List Int := (List.range k).map (commonF bs zs)
def commonL (bs : List UInt8) (zs : List Int) : List Int := commonTo bs zs zs.length
theorem commonTo_next (bs : List UInt8) (zs : List Int) (k : Nat) (hk : 1 ≤ k) : commonTo bs zs (k + 1) = commonTo bs zs k ++ [(lcp (sfx bs (gi zs (k - 1))) (sfx bs (gi zs k)) : Int)] := by
  unfold commonTo
  rw [List.range_succ, List.map_append]
  simp [commonF, show k ≠ 0 by omega]
theorem commonTo_one (bs : List UInt8) (zs : List Int) : commonTo bs zs 1 = [0] := rfl
theorem commonTo_length (bs : List UInt8) (zs : List Int) (k : Nat) : (commonTo bs zs k).length = k := by simp [commonTo]

/-- how many in front meet a test. -/
def ahead (f : Int → Bool) (zs : List Int) : Nat := (zs.takeWhile f).length
theorem ahead_eq {f : Int → Bool} : ∀ {zs : List Int} {k : Nat}, k ≤ zs.length → (∀ i, i < k → f (gi zs i) = true) → (k < zs.length → f (gi zs k) = false) → ahead f zs = k
  | [], k, hk, _, _ => by simp at hk; subst hk; rfl
  | z :: zs, 0, _, _, h => by
    have := h (by simp)
    simp [gi] at this
    simp [ahead, List.takeWhile, this]
  | z :: zs, k + 1, hk, h1, h2 => by
    have h0 : f z = true := by have := h1 0 (by omega); simpa [gi] using this
    have := ahead_eq (f := f) (zs := zs) (k := k) (by simpa using hk) (fun i hi => by have := h1 (i + 1) (by omega); simpa [gi] using this) (fun hlt => by have := h2 (by simpa using hlt); simpa [gi] using this)
    unfold ahead at this ⊢
    simp [List.takeWhile, h0, this]
def begins (pat : List UInt8) (x : List UInt8) : Bool := decide (x.take pat.length = pat)
def lowOf (bs : List UInt8) (zs : List Int) (pat : List UInt8) : Nat := ahead (fun z => less (sfx bs z) pat) zs
def highOf (bs : List UInt8) (zs : List Int) (pat : List UInt8) : Nat := lowOf bs zs pat + ahead (fun z => begins pat (sfx bs z)) (zs.drop (lowOf bs zs pat))

/-- the insertion of a place. -/
def insAt (bs : List UInt8) (l : List Int) (p : Int) : Nat := ahead (fun z => less (sfx bs z) (sfx bs p)) l
def insP (bs : List UInt8) (l : List Int) (p : Int) : List Int := l.take (insAt bs l p) ++ [p] ++ l.drop (insAt bs l p)
/-- what the reference has behind k rounds: the places n, n - 1, .. -/
def sortTo (bs : List UInt8) : Nat → List Int
  | 0 => []
  | k + 1 => insP bs (sortTo bs k) ((bs.length - k : Nat) : Int)
def sortL (bs : List UInt8) : List Int := sortTo bs (bs.length + 1)
theorem insAt_le (bs : List UInt8) (l : List Int) (p : Int) : insAt bs l p ≤ l.length := by
  unfold insAt ahead
  exact (List.takeWhile_sublist _).length_le
theorem insP_length (bs : List UInt8) (l : List Int) (p : Int) : (insP bs l p).length = l.length + 1 := by
  have := insAt_le bs l p
  unfold insP
  simp
  omega
theorem sortTo_length (bs : List UInt8) : ∀ k, (sortTo bs k).length = k
  | 0 => rfl
  | k + 1 => by rw [sortTo, insP_length, sortTo_length bs k]
theorem mem_insP {bs : List UInt8} {l : List Int} {p z : Int} (h : z ∈ insP bs l p) : z = p ∨ z ∈ l := by
  unfold insP at h
  simp only [List.mem_append, List.mem_singleton] at h
  rcases h with (h | h) | h
  · exact .inr (List.mem_of_mem_take h)
  · exact .inl h
  · exact .inr (List.mem_of_mem_drop h)
theorem sortTo_range (bs : List UInt8) : ∀ k, ∀ z ∈ sortTo bs k, 0 ≤ z ∧ z ≤ bs.length
  | 0, z, h => by simp [sortTo] at h
  | k + 1, z, h => by
    rcases mem_insP h with rfl | h
    · omega
    · exact sortTo_range bs k z h
theorem gi_mem {zs : List Int} {k : Nat} (hk : k < zs.length) : gi zs k ∈ zs := by rw [gi_get hk]; exact List.getElem_mem hk

def ranksErr (zs : List Int) : Int := if zs.length = 0 ∨ 65537 < zs.length then 6 else permErr zs
def ranksOut (zs : List Int) : List Int := if ranksErr zs = 0 then ranksL zs else []
end Go.Proofs.YtckkmafppfcecaaGreatDoor.Bwt
