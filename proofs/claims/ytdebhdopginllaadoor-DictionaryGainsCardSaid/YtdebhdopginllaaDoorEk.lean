/- The plain law of a code's length. No program in sight. -/
import Derived.Test.YtdebhdopginllaaDoorDu
namespace Go.Proofs.YtdebhdopginllaaDoor
open Go.RowKit Go.Proofs Go.Sort
set_option linter.unusedVariables false

/-- how many bytes are from 128 on. -/
def hiC (l : List UInt8) : Nat := l.countP (fun b => decide (128 ≤ b.toNat))
def savL (ws l : List (List UInt8)) : Nat := (l.map (fun s => if s ∈ ws then s.length - 1 else 0)).sum
theorem hiC_append (x y : List UInt8) : hiC (x ++ y) = hiC x + hiC y := List.countP_append
theorem take_next (bs : List UInt8) (k : Nat) : bs.take (stP bs (k + 1)) = bs.take (stP bs k) ++ pcP bs k := by
  unfold pcP; rw [stP, List.take_add]
theorem letters_low {p : List UInt8} (h : runL p = p.length) : hiC p = 0 := by
  unfold hiC
  rw [List.countP_eq_zero]
  intro b hb
  obtain ⟨i, hi, rfl⟩ := List.mem_iff_getElem.1 hb
  have := letterI_lt (runL_letter (bs := p) (k := i) (by omega))
  have e : gb p i = ((p[i]).toNat : Int) := by simp [gb, List.getD, hi]
  rw [e] at this
  simp; omega
theorem codeTo_count {ws : List (List UInt8)} (hw : ∀ s ∈ ws, isWordB s = true) {bs : List UInt8} : ∀ {k : Nat}, k ≤ (piecesL bs).length → (codeTo ws bs k).length + savL ws (wordsTo bs k) = stP bs k + hiC (bs.take (stP bs k))
  | 0, _ => by simp [codeTo, wordsTo, stP, savL, hiC]
  | k + 1, hk => by
    have ih := codeTo_count hw (bs := bs) (k := k) (by omega)
    have hlen := pcP_length (bs := bs) (k := k) (by omega)
    rw [take_next, hiC_append, codeTo, List.length_append, stP]
    rcases pcP_kind (bs := bs) (k := k) (by omega) with ⟨h1, h2⟩ | ⟨h1, b, h2, h3⟩
    · have e : wordsTo bs (k + 1) = wordsTo bs k ++ [pcP bs k] := by rw [wordsTo, h1]; rfl
      rw [e, letters_low h2, codeP_word h2 (pcP_ne (by omega))]
      have es : savL ws (wordsTo bs k ++ [pcP bs k]) = savL ws (wordsTo bs k) + if pcP bs k ∈ ws then (pcP bs k).length - 1 else 0 := by simp [savL]
      rw [es]
      have hp := plen_pos (bs.drop (stP bs k))
      split
      · simp; omega
      · omega
    · have e : wordsTo bs (k + 1) = wordsTo bs k := by rw [wordsTo, h1]; simp
      rw [e, h2, codeP_byte hw]
      rw [h2] at hlen
      have hb : hiC [b] = if 128 ≤ (b.toNat : Int) then 1 else 0 := by
        unfold hiC
        by_cases h : 128 ≤ b.toNat
        · rw [if_pos (by omega)]; simp [h]
        · rw [if_neg (by omega)]; simp; omega
      rw [hb]
      simp at hlen
      split
      · simp; omega
      · simp; omega
theorem code_count {ws : List (List UInt8)} (hw : ∀ s ∈ ws, isWordB s = true) (bs : List UInt8) : (codeL ws bs).length + savL ws (wordsL bs) = bs.length + hiC bs := by
  have := codeTo_count hw (bs := bs) (Nat.le_refl _)
  rw [pieces_end, List.take_length] at this
  exact this
theorem sav_cons {w : List UInt8} {ws : List (List UInt8)} (h : w ∉ ws) : ∀ l : List (List UInt8), savL (w :: ws) l = l.count w * (w.length - 1) + savL ws l
  | [] => by simp [savL]
  | s :: l => by
    have ih := sav_cons h l
    unfold savL at ih ⊢
    simp only [List.map_cons, List.sum_cons]
    rw [ih]
    by_cases hs : s = w
    · subst hs
      rw [if_pos (by simp), if_neg h, List.count_cons_self, Nat.add_mul]
      omega
    · have e : l.count w = (s :: l).count w := by rw [List.count_cons]; simp [hs]
      rw [← e]
      have e2 : (s ∈ w :: ws) ↔ s ∈ ws := by simp [hs]
      by_cases h2 : s ∈ ws
      · rw [if_pos (e2.2 h2), if_pos h2]; omega
      · rw [if_neg (fun h' => h2 (e2.1 h')), if_neg h2]; omega
theorem texts_saved {l : List (List UInt8)} : ∀ (ws : List (List UInt8)), ws.Nodup → (∀ s ∈ ws, candP l s) → (textsL ws).length ≤ savL ws l
  | [], _, _ => by simp [textsL]
  | w :: ws, hnd, h => by
    rw [List.nodup_cons] at hnd
    have ih := texts_saved (l := l) ws hnd.2 (fun s hs => h s (by simp [hs]))
    obtain ⟨h1, h2⟩ := h w (by simp)
    have hl : 2 ≤ w.length := by simp [isWordB] at h1; exact h1.1
    unfold gainS gainL at h2
    have e : ((l.count w * (w.length - 1) : Nat) : Int) = (l.count w : Int) * ((w.length : Int) - 1) := by
      rw [Int.natCast_mul, Int.natCast_sub (by omega)]; rfl
    rw [sav_cons hnd.1]
    simp [textsL]
    omega
theorem forward_len (bs : List UInt8) : (forwardL bs).length ≤ bs.length + hiC bs + 1 := by
  obtain ⟨h1, h2, h3⟩ := learnSel_ok (ws := wordsL bs) 64 [] List.nodup_nil (fun s hs => by cases hs)
  have ht := texts_saved (l := wordsL bs) (learnL bs 64) h1 (fun s hs => (h2 s hs).2)
  have hc := code_count (ws := learnL bs 64) (fun s hs => (h2 s hs).2.1) bs
  unfold forwardL
  simp
  omega
theorem hiC_le (l : List UInt8) : hiC l ≤ l.length := List.countP_le_length
end Go.Proofs.YtdebhdopginllaaDoor
