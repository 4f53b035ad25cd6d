/- The plain law of the round trip: Inverse of Forward; lengths. No program in sight. -/
import Derived.Test.YtdebhdopginllaaDz
namespace Go.Proofs.Ytdebhdopginllaa
open Go.RowKit Go.Proofs Go.Sort
set_option linter.unusedVariables false

theorem ones_small : ∀ b : Fin 128, onesN b.val = 0 ∧ headN b.val = b.val := by decide +kernel
theorem intL_small {n : Nat} (hn : n ≤ 127) (r : List UInt8) : intL (UInt8.ofNat n :: r) = (n, r, 0) := by
  have ht : (UInt8.ofNat n).toNat = n := by rw [UInt8.toNat_ofNat', Nat.mod_eq_of_lt (by omega)]
  have hg : ((UInt8.ofNat n :: r).getD 0 0).toNat = n := ht
  obtain ⟨h1, h2⟩ := ones_small ⟨n, by omega⟩
  simp only at h1 h2
  unfold intL
  rw [if_neg (by simp), hg, if_neg (by omega), h1, if_neg (by simp), h2]
  show (if 9007199254740991 < n ∨ furL n ≠ 0 then _ else _) = _
  rw [if_neg (by rw [furL_small hn]; omega)]
  rfl
theorem textL_small {s : List UInt8} (hs : s.length ≤ 127) (r : List UInt8) : textL (UInt8.ofNat s.length :: s ++ r) = (s, r, 0) := by
  have h := intL_small hs (s ++ r)
  unfold textL
  rw [List.cons_append, h]
  simp only
  rw [if_neg (by simp), if_neg (by omega), if_neg (by simp)]
  simp
theorem readL_texts : ∀ (ws : List (List UInt8)) (r : List UInt8) (acc : List (List UInt8)), (∀ s ∈ ws, s.length ≤ 127) → readL ws.length (textsL ws ++ r) acc = (acc ++ ws, r, 0)
  | [], r, acc, _ => by simp [readL, textsL]
  | s :: ws, r, acc, h => by
    have ht := textL_small (h s (by simp)) (textsL ws ++ r)
    have e : textsL (s :: ws) ++ r = UInt8.ofNat s.length :: s ++ (textsL ws ++ r) := by simp [textsL]
    rw [List.length_cons, readL, e, ht]
    simp only
    rw [if_neg (by simp), readL_texts ws r _ (fun s hs => h s (by simp [hs]))]
    simp
theorem readL_len : ∀ (n : Nat) (r : List UInt8) (ws : List (List UInt8)), (readL n r ws).2.1.length ≤ r.length
  | 0, r, ws => Nat.le_refl _
  | n + 1, r, ws => by
    rw [readL]
    split
    · simp
    · exact Nat.le_trans (readL_len n _ _) (textL_len r).1
theorem learn_words (bs : List UInt8) : ∀ s ∈ learnL bs 64, s.length ≤ 32 := fun s hs => word_le ((checkL_zero.1 (learn_check bs (most := 64) (by omega))).2.1 s hs)
theorem learn_len (bs : List UInt8) : (learnL bs 64).length ≤ 64 := (checkL_zero.1 (learn_check bs (most := 64) (by omega))).1
theorem forward_read (bs : List UInt8) : intL (forwardL bs) = ((learnL bs 64).length, textsL (learnL bs 64) ++ codeL (learnL bs 64) bs, 0) ∧ readL (learnL bs 64).length (textsL (learnL bs 64) ++ codeL (learnL bs 64) bs) [] = (learnL bs 64, codeL (learnL bs 64) bs, 0) := by
  have h1 := learn_len bs
  constructor
  · unfold forwardL
    rw [List.cons_append]
    exact intL_small (by omega) _
  · have := readL_texts (learnL bs 64) (codeL (learnL bs 64) bs) [] (fun s hs => by have := learn_words bs s hs; omega)
    simpa using this
theorem inverse_forward (bs : List UInt8) : inverseL (forwardL bs) = (bs, 0) := by
  obtain ⟨h1, h2⟩ := forward_read bs
  have hl := learn_len bs
  have hc := learn_check bs (most := 64) (by omega)
  unfold inverseL
  rw [h1]
  simp only
  rw [if_neg (by simp), if_neg (by omega), h2]
  simp only
  rw [if_neg (by simp)]
  unfold uncR
  rw [if_pos hc, uncode_code hc]

/-- how many bytes are from 128 on. -/
def hiC (l : List UInt8) : Nat := l.countP (fun b => decide (128 ≤ b.toNat))
def savL (ws l : List (List UInt8)) : Nat := (l.map (fun s => if s ∈ ws then s.length - 1 else 0)).sum
theorem hiC_append (x y : List UInt8) : hiC (x ++ y) = hiC x + hiC y := List.countP_append
theorem take_next (bs : List UInt8) (k : Nat) : bs.take (stP bs (k + 1)) = bs.take (stP bs k) ++ pcP bs k := by
  unfold pcP; rw [stP, List.take_add]
theorem letters_low {p : List UInt8} (h : runL p = p.length) : hiC p = 0 := by
  unfold hiC
  rw [List.countP_eq_zero]
  intro b hb
  obtain ⟨i, hi, rfl⟩ := List.mem_iff_getElem.1 hb
  have := letterI_lt (runL_letter (bs := p) (k := i) (by omega))
  have e : gb p i = ((p[i]).toNat : Int) := by simp [gb, List.getD, hi]
  rw [e] at this
  simp; omega
theorem codeTo_count {ws : List (List UInt8)} (hw : ∀ s ∈ ws, isWordB s = true) {bs : List UInt8} : ∀ {k : Nat}, k ≤ (piecesL bs).length → (codeTo ws bs k).length + savL ws (wordsTo bs k) = stP bs k + hiC (bs.take (stP bs k))
  | 0, _ => by simp [codeTo, wordsTo, stP, savL, hiC]
  | k + 1, hk => by
    have ih := codeTo_count hw (bs := bs) (k := k) (by omega)
    have hlen := pcP_length (bs := bs) (k := k) (by omega)
    rw [take_next, hiC_append, codeTo, List.length_append, stP]
    rcases pcP_kind (bs := bs) (k := k) (by omega) with ⟨h1, h2⟩ | ⟨h1, b, h2, h3⟩
    · have e : wordsTo bs (k + 1) = wordsTo bs k ++ [pcP bs k] := by rw [wordsTo, h1]; rfl
      rw [e, letters_low h2, codeP_word h2 (pcP_ne (by omega))]
      have es : savL ws (wordsTo bs k ++ [pcP bs k]) = savL ws (wordsTo bs k) + if pcP bs k ∈ ws then (pcP bs k).length - 1 else 0 := by simp [savL]
      rw [es]
      have hp := plen_pos (bs.drop (stP bs k))
      split
      · simp; omega
      · omega
    · have e : wordsTo bs (k + 1) = wordsTo bs k := by rw [wordsTo, h1]; simp
      rw [e, h2, codeP_byte hw]
      rw [h2] at hlen
      have hb : hiC [b] = if 128 ≤ (b.toNat : Int) then 1 else 0 := by
        unfold hiC
        by_cases h : 128 ≤ b.toNat
        · rw [if_pos (by omega)]; simp [h]
        · rw [if_neg (by omega)]; simp; omega
      rw [hb]
      simp at hlen
      split
      · simp; omega
      · simp; omega
theorem code_count {ws : List (List UInt8)} (hw : ∀ s ∈ ws, isWordB s = true) (bs : List UInt8) : (codeL ws bs).length + savL ws (wordsL bs) = bs.length + hiC bs := by
  have := codeTo_count hw (bs := bs) (Nat.le_refl _)
  rw [pieces_end, List.take_length] at this
  exact this
theorem sav_cons {w : List UInt8} {ws : List (List UInt8)} (h : w ∉ ws) : ∀ l : List (List UInt8), savL (w :: ws) l = l.count w * (w.length - 1) + savL ws l
  | [] => by simp [savL]
  | s :: l => by
    have ih := sav_cons h l
    unfold savL at ih ⊢
    simp only [List.map_cons, List.sum_cons]
    rw [ih]
    by_cases hs : s = w
    · subst hs
      rw [if_pos (by simp), if_neg h, List.count_cons_self, Nat.add_mul]
      omega
    · have e : l.count w = (s :: l).count w := by rw [List.count_cons]; simp [hs]
      rw [← e]
      have e2 : (s ∈ w :: ws) ↔ s ∈ ws := by simp [hs]
      by_cases h2 : s ∈ ws
      · rw [if_pos (e2.2 h2), if_pos h2]; omega
      · rw [if_neg (fun h' => h2 (e2.1 h')), if_neg h2]; omega
theorem texts_saved {l : List (List UInt8)} : ∀ (ws : List (List UInt8)), ws.Nodup → (∀ s ∈ ws, candP l s) → (textsL ws).length ≤ savL ws l
  | [], _, _ => by simp [textsL]
  | w :: ws, hnd, h => by
    rw [List.nodup_cons] at hnd
    have ih := texts_saved (l := l) ws hnd.2 (fun s hs => h s (by simp [hs]))
    obtain ⟨h1, h2⟩ := h w (by simp)
    have hl : 2 ≤ w.length := by simp [isWordB] at h1; exact h1.1
    unfold gainS gainL at h2
    have e : ((l.count w * (w.length - 1) : Nat) : Int) = (l.count w : Int) * ((w.length : Int) - 1) := by
      rw [Int.natCast_mul, Int.natCast_sub (by omega)]; rfl
    rw [sav_cons hnd.1]
    simp [textsL]
    omega
theorem forward_len (bs : List UInt8) : (forwardL bs).length ≤ bs.length + hiC bs + 1 := by
  obtain ⟨h1, h2, h3⟩ := learnSel_ok (ws := wordsL bs) 64 [] List.nodup_nil (fun s hs => by cases hs)
  have ht := texts_saved (l := wordsL bs) (learnL bs 64) h1 (fun s hs => (h2 s hs).2)
  have hc := code_count (ws := learnL bs 64) (fun s hs => (h2 s hs).2.1) bs
  unfold forwardL
  simp
  omega
theorem hiC_le (l : List UInt8) : hiC l ≤ l.length := List.countP_le_length
end Go.Proofs.Ytdebhdopginllaa
