/- The plain functions of the dictionary: the error of a list, code and uncode. No program in sight. -/
import Derived.Test.YtdebhdopginllaaDoorDd
namespace Go.Proofs.YtdebhdopginllaaDoor
open Go.RowKit Go.Proofs
set_option linter.unusedVariables false

def badAt (ws : List (List UInt8)) (j : Nat) : Nat := if isWordB (gs ws j) = false then 24 else if gs ws j ∈ ws.take j then 8 else 0
def checkTo (ws : List (List UInt8)) : Nat → Nat
  | 0 => 0
  | k + 1 => if checkTo ws k = 0 then badAt ws k else checkTo ws k
def checkL (ws : List (List UInt8)) : Nat := if 64 < ws.length then 6 else checkTo ws ws.length
theorem checkTo_stop {ws : List (List UInt8)} {k : Nat} (h0 : checkTo ws k = 0) (hb : badAt ws k ≠ 0) : ∀ n, k < n → checkTo ws n = badAt ws k
  | 0, h => by omega
  | n + 1, h => by
    rcases Nat.lt_or_ge k n with hk | hk
    · have := checkTo_stop h0 hb n hk
      rw [checkTo, if_neg (by rw [this]; exact hb), this]
    · obtain rfl : n = k := by omega
      rw [checkTo, if_pos h0]
theorem checkTo_zero {ws : List (List UInt8)} : ∀ {n : Nat}, checkTo ws n = 0 → ∀ j, j < n → badAt ws j = 0
  | 0, _, j, hj => by omega
  | n + 1, h, j, hj => by
    rw [checkTo] at h
    by_cases h0 : checkTo ws n = 0
    · rw [if_pos h0] at h
      rcases Nat.lt_succ_iff_lt_or_eq.1 hj with hlt | rfl
      · exact checkTo_zero h0 j hlt
      · exact h
    · rw [if_neg h0] at h; exact absurd h h0
theorem checkTo_of {ws : List (List UInt8)} : ∀ {n : Nat}, (∀ j, j < n → badAt ws j = 0) → checkTo ws n = 0
  | 0, _ => rfl
  | n + 1, h => by rw [checkTo, if_pos (checkTo_of fun j hj => h j (by omega)), h n (by omega)]
theorem badAt_zero {ws : List (List UInt8)} {j : Nat} : badAt ws j = 0 ↔ isWordB (gs ws j) = true ∧ gs ws j ∉ ws.take j := by
  unfold badAt
  by_cases h : isWordB (gs ws j) = false
  · simp [h]
  · rw [if_neg h]
    simp at h
    by_cases h2 : gs ws j ∈ ws.take j <;> simp [h, h2]
/-- a list that is in order. -/
theorem checkL_zero {ws : List (List UInt8)} : checkL ws = 0 ↔ ws.length ≤ 64 ∧ (∀ s ∈ ws, isWordB s = true) ∧ ws.Nodup := by
  unfold checkL
  by_cases hl : 64 < ws.length
  · rw [if_pos hl]; constructor
    · intro h; cases h
    · intro h; omega
  · rw [if_neg hl]
    constructor
    · intro h
      have h1 := checkTo_zero h
      refine ⟨by omega, fun s hs => ?_, ?_⟩
      · obtain ⟨i, hi, rfl⟩ := List.mem_iff_getElem.1 hs
        have := (badAt_zero.1 (h1 i hi)).1
        rwa [gs_get hi] at this
      · rw [List.Nodup, List.pairwise_iff_getElem]
        intro i j hi hj hij e
        have := (badAt_zero.1 (h1 j hj)).2
        rw [gs_get hj] at this
        exact this (List.mem_iff_getElem.2 ⟨i, by simp; omega, by rw [List.getElem_take]; exact e⟩)
    · rintro ⟨-, h1, h2⟩
      refine checkTo_of fun j hj => badAt_zero.2 ⟨by rw [gs_get hj]; exact h1 _ (List.getElem_mem hj), ?_⟩
      rw [gs_get hj]
      intro hm
      obtain ⟨i, hi, e⟩ := List.mem_iff_getElem.1 hm
      rw [List.getElem_take] at e
      rw [List.Nodup, List.pairwise_iff_getElem] at h2
      simp at hi
      exact h2 i j (by omega) hj (by omega) e

/-- the code of a piece. -/
def codeP (ws : List (List UInt8)) (p : List UInt8) : List UInt8 := if p ∈ ws then [UInt8.ofNat (128 + ws.idxOf p)] else if 128 ≤ gb p 0 then [255, p.headD 0] else p
def codeTo (ws : List (List UInt8)) (bs : List UInt8) : Nat → List UInt8
  | 0 => []
  | k + 1 => codeTo ws bs k ++ codeP ws (pcP bs k)
def codeL (ws : List (List UInt8)) (bs : List UInt8) : List UInt8 := codeTo ws bs (piecesL bs).length

theorem pcP_length {bs : List UInt8} {k : Nat} (h : k < (piecesL bs).length) : (pcP bs k).length = plen (bs.drop (stP bs k)) := by
  unfold pcP
  rw [List.length_take]
  have := plen_le (pieces_ne h)
  omega
theorem pcP_ne {bs : List UInt8} {k : Nat} (h : k < (piecesL bs).length) : pcP bs k ≠ [] := fun e => by
  have := pcP_length h
  rw [e] at this
  have := plen_pos (bs.drop (stP bs k))
  simp at *
  omega
theorem pcP_gb {bs : List UInt8} {k i : Nat} (hi : i < plen (bs.drop (stP bs k))) : gb (pcP bs k) i = gb bs (stP bs k + i) := by
  unfold pcP; rw [gb_take _ _ _ hi, gb_drop]
theorem runL_all {p : List UInt8} (h : ∀ i, i < p.length → letterI (gb p i) = true) : runL p = p.length := runL_eq h (Nat.le_refl _) (fun h => absurd h (Nat.lt_irrefl _))
/-- a piece is a run of letters, or one byte that is no letter. -/
theorem pcP_kind {bs : List UInt8} {k : Nat} (h : k < (piecesL bs).length) :
    (wdP bs k = true ∧ runL (pcP bs k) = (pcP bs k).length) ∨ (wdP bs k = false ∧ ∃ b, pcP bs k = [b] ∧ isL b = false) := by
  have hl := pcP_length h
  rcases Nat.eq_zero_or_pos (runL (bs.drop (stP bs k))) with h0 | h0
  · right
    refine ⟨by simp [wdP, h0], ?_⟩
    have hp : plen (bs.drop (stP bs k)) = 1 := by unfold plen; omega
    rw [hp] at hl
    obtain ⟨b, hb⟩ := List.length_eq_one_iff.1 hl
    refine ⟨b, hb, ?_⟩
    have hne := pieces_ne h
    have hs := runL_stop (bs := bs.drop (stP bs k)) (by rw [h0]; exact List.length_pos_iff.2 hne)
    rw [h0, gb_drop, ← pcP_gb (i := 0) (by omega), hb] at hs
    exact hs
  · left
    refine ⟨by simpa [wdP] using h0, runL_all fun i hi => ?_⟩
    have hp : plen (bs.drop (stP bs k)) = runL (bs.drop (stP bs k)) := by unfold plen; omega
    rw [hl, hp] at hi
    rw [pcP_gb (by omega), ← gb_drop]
    exact runL_letter hi
theorem letterI_lt {x : Int} (h : letterI x = true) : x < 128 := by
  unfold letterI at h
  split at h
  · split at h
    · omega
    · split at h
      · simp at h; omega
      · cases h
  · split at h
    · simp at h; omega
    · cases h
/-- the code of a piece, by its kind, where the list is in order. -/
theorem codeP_word {ws : List (List UInt8)} {p : List UInt8} (h : runL p = p.length) (hne : p ≠ []) : codeP ws p = if p ∈ ws then [UInt8.ofNat (128 + ws.idxOf p)] else p := by
  unfold codeP
  have hl : 0 < p.length := List.length_pos_iff.2 hne
  have := letterI_lt (runL_letter (bs := p) (k := 0) (by omega))
  rw [if_neg (c := 128 ≤ gb p 0) (by omega)]
theorem codeP_byte {ws : List (List UInt8)} (hw : ∀ s ∈ ws, isWordB s = true) (b : UInt8) : codeP ws [b] = if 128 ≤ (b.toNat : Int) then [255, b] else [b] := by
  unfold codeP
  rw [if_neg (fun h => by have := hw _ h; simp [isWordB] at this)]
  rfl
theorem codeP_len {ws : List (List UInt8)} {p : List UInt8} (h : p ≠ []) : (codeP ws p).length ≤ 2 * p.length := by
  have hl : 0 < p.length := List.length_pos_iff.2 h
  unfold codeP
  split
  · simp; omega
  · split
    · simp; omega
    · omega
theorem codeTo_len {ws : List (List UInt8)} {bs : List UInt8} : ∀ {k : Nat}, k ≤ (piecesL bs).length → (codeTo ws bs k).length ≤ 2 * stP bs k
  | 0, _ => by simp [codeTo]
  | k + 1, h => by
    rw [codeTo, List.length_append, stP]
    have h1 := codeTo_len (ws := ws) (bs := bs) (k := k) (by omega)
    have h2 := codeP_len (ws := ws) (pcP_ne (bs := bs) (k := k) (by omega))
    rw [pcP_length (by omega)] at h2
    omega
theorem codeL_len (ws : List (List UInt8)) (bs : List UInt8) : (codeL ws bs).length ≤ 2 * bs.length := by
  have := codeTo_len (ws := ws) (bs := bs) (Nat.le_refl _)
  rwa [pieces_end] at this

/-- what a code stands for, with the error's number. -/
def uncodeL (ws : List (List UInt8)) : List UInt8 → List UInt8 → List UInt8 × Nat
  | [], out => (out, 0)
  | [x], out => if x.toNat < 128 then (out ++ [x], 0) else if x.toNat = 255 then ([], 9) else if ws.length ≤ x.toNat - 128 then ([], 7) else (out ++ gs ws (x.toNat - 128), 0)
  | x :: y :: r, out => if x.toNat < 128 then uncodeL ws (y :: r) (out ++ [x]) else if x.toNat = 255 then (if y.toNat < 128 then ([], 3) else uncodeL ws r (out ++ [y])) else if ws.length ≤ x.toNat - 128 then ([], 7) else uncodeL ws (y :: r) (out ++ gs ws (x.toNat - 128))
theorem uncodeL_low {ws : List (List UInt8)} {x : UInt8} (h : x.toNat < 128) : ∀ (r out : List UInt8), uncodeL ws (x :: r) out = uncodeL ws r (out ++ [x])
  | [], out => by simp [uncodeL, h]
  | y :: r, out => by simp [uncodeL, h]
theorem uncodeL_esc {ws : List (List UInt8)} {x : UInt8} (h : x.toNat = 255) : ∀ (r out : List UInt8), uncodeL ws (x :: r) out = match r with | [] => ([], 9) | y :: r' => if y.toNat < 128 then ([], 3) else uncodeL ws r' (out ++ [y])
  | [], out => by simp [uncodeL, h]
  | y :: r, out => by simp [uncodeL, h]
theorem uncodeL_none {ws : List (List UInt8)} {x : UInt8} (h : 128 ≤ x.toNat) (h2 : x.toNat ≠ 255) (h3 : ws.length ≤ x.toNat - 128) : ∀ (r out : List UInt8), uncodeL ws (x :: r) out = ([], 7)
  | [], out => by simp [uncodeL, h2, h3, Nat.not_lt.2 h]
  | y :: r, out => by simp [uncodeL, h2, h3, Nat.not_lt.2 h]
theorem uncodeL_word {ws : List (List UInt8)} {x : UInt8} (h : 128 ≤ x.toNat) (h2 : x.toNat ≠ 255) (h3 : x.toNat - 128 < ws.length) : ∀ (r out : List UInt8), uncodeL ws (x :: r) out = uncodeL ws r (out ++ gs ws (x.toNat - 128))
  | [], out => by simp [uncodeL, h2, Nat.not_le.2 h3, Nat.not_lt.2 h]
  | y :: r, out => by simp [uncodeL, h2, Nat.not_le.2 h3, Nat.not_lt.2 h]
theorem uncodeL_lows {ws : List (List UInt8)} : ∀ (p r out : List UInt8), (∀ i, i < p.length → gb p i < 128) → uncodeL ws (p ++ r) out = uncodeL ws r (out ++ p)
  | [], r, out, _ => by simp
  | x :: p, r, out, h => by
    have h0 : x.toNat < 128 := by have := h 0 (by simp); simp [gb] at this; omega
    rw [List.cons_append, uncodeL_low h0, uncodeL_lows p r _ (fun i hi => h (i + 1) (by simpa using hi)), List.append_assoc]
    rfl
theorem uncode_piece {ws : List (List UInt8)} (hc : checkL ws = 0) {bs : List UInt8} {k : Nat} (hk : k < (piecesL bs).length) (r out : List UInt8) : uncodeL ws (codeP ws (pcP bs k) ++ r) out = uncodeL ws r (out ++ pcP bs k) := by
  obtain ⟨hl, hw, hnd⟩ := checkL_zero.1 hc
  rcases pcP_kind hk with ⟨-, h⟩ | ⟨-, b, hb, hL⟩
  · rw [codeP_word h (pcP_ne hk)]
    by_cases hm : pcP bs k ∈ ws
    · rw [if_pos hm]
      have hi : ws.idxOf (pcP bs k) < ws.length := List.idxOf_lt_length_iff.2 hm
      have ht : (UInt8.ofNat (128 + ws.idxOf (pcP bs k))).toNat = 128 + ws.idxOf (pcP bs k) := by rw [UInt8.toNat_ofNat']; exact Nat.mod_eq_of_lt (by omega)
      rw [List.cons_append, List.nil_append, uncodeL_word (by omega) (by omega) (by omega), ht, show 128 + ws.idxOf (pcP bs k) - 128 = ws.idxOf (pcP bs k) by omega, gs_get hi, List.getElem_idxOf]
    · rw [if_neg hm]
      exact uncodeL_lows _ _ _ fun i hi => letterI_lt (runL_letter (by omega))
  · rw [hb, codeP_byte hw]
    by_cases h : 128 ≤ (b.toNat : Int)
    · rw [if_pos h]
      show uncodeL ws (255 :: b :: r) out = _
      rw [uncodeL_esc (by rfl)]
      show (if b.toNat < 128 then _ else _) = _
      rw [if_neg (by omega)]
    · rw [if_neg h]
      exact uncodeL_low (by omega) _ _
theorem uncode_code {ws : List (List UInt8)} (hc : checkL ws = 0) (bs : List UInt8) : uncodeL ws (codeL ws bs) [] = (bs, 0) := by
  have key : ∀ (k : Nat), k ≤ (piecesL bs).length → ∀ r out, uncodeL ws (codeTo ws bs k ++ r) out = uncodeL ws r (out ++ bs.take (stP bs k)) := by
    intro k
    induction k with
    | zero => intro _ r out; simp [codeTo, stP]
    | succ k ih =>
      intro hk r out
      rw [codeTo, List.append_assoc, ih (by omega), uncode_piece hc (by omega), List.append_assoc]
      congr 2
      unfold pcP
      rw [stP, ← List.take_add]
  have := key _ (Nat.le_refl _) [] []
  rw [List.append_nil, pieces_end, List.take_length] at this
  exact this
/-- how long it may become. -/
theorem uncodeL_err {ws : List (List UInt8)} : ∀ (m : Nat) (b out : List UInt8), b.length ≤ m → (uncodeL ws b out).2 ≠ 0 → (uncodeL ws b out).1 = []
  | 0, b, out, h, he => by
    obtain rfl : b = [] := List.length_eq_zero_iff.1 (by omega)
    simp [uncodeL] at he
  | m + 1, [], out, h, he => by simp [uncodeL] at he
  | m + 1, x :: r, out, h, he => by
    have hr : r.length ≤ m := by simpa using h
    rcases Nat.lt_or_ge x.toNat 128 with h1 | h1
    · rw [uncodeL_low h1] at he ⊢; exact uncodeL_err m r _ hr he
    · by_cases h2 : x.toNat = 255
      · rw [uncodeL_esc h2] at he ⊢
        cases r with
        | nil => rfl
        | cons y r =>
          simp only at he ⊢
          split at he
          · rename_i h3; rw [if_pos h3]
          · rename_i h3; rw [if_neg h3]; exact uncodeL_err m r _ (by simp at hr; omega) he
      · rcases Nat.lt_or_ge (x.toNat - 128) ws.length with h3 | h3
        · rw [uncodeL_word h1 h2 h3] at he ⊢; exact uncodeL_err m r _ hr he
        · rw [uncodeL_none h1 h2 h3]
end Go.Proofs.YtdebhdopginllaaDoor
