/- Spaces and comments between words change nothing: the plain law. No program in sight. -/
import Derived.Test.YtlbhggjkcfcobaaDoorAm
namespace Go.Proofs.YtlbhggjkcfcobaaDoor
open Go.RowKit Go.Proofs
set_option linter.unusedVariables false

/-- the words of a text, without their places. -/
def wordsT (s : List UInt8) : List (List UInt8) := (wordsL s).map (·.1)
theorem wordsF_texts : ∀ (f : Nat) (s : List UInt8) (i j : Nat), (wordsF f s i).map (·.1) = (wordsF f s j).map (·.1)
  | 0, _, _, _ => rfl
  | f + 1, [], _, _ => rfl
  | f + 1, b :: t, i, j => by
    unfold wordsF
    split
    · exact wordsF_texts f _ _ _
    · split
      · exact wordsF_texts f _ _ _
      · rw [List.map_cons, List.map_cons, wordsF_texts f _ _ (j + ((b :: t).takeWhile (fun c => !gapB c)).length)]
theorem wordsT_fuel {f : Nat} {s : List UInt8} {i : Nat} (h : s.length < f) : (wordsF f s i).map (·.1) = wordsT s := by
  unfold wordsT wordsL
  rw [wordsF_texts f s i 0, wordsF_fuel f (s.length + 1) s 0 h (by omega)]
theorem wordsT_nil : wordsT [] = [] := rfl
theorem wordsT_comment (t : List UInt8) : wordsT (59 :: t) = wordsT (t.dropWhile (· != 10)) := by
  have h1 : ((59 :: t).dropWhile (· != 10)) = t.dropWhile (· != 10) := by rw [List.dropWhile_cons, if_pos (by decide)]
  have := dropWhile_shorter (· != 10) t
  show (wordsF ((59 :: t).length + 1) (59 :: t) 0).map (·.1) = _
  unfold wordsF
  rw [if_pos rfl, h1]
  exact wordsT_fuel (by simp; omega)
theorem wordsT_gap {b : UInt8} (t : List UInt8) (hb : b ≠ 59) (hg : gapB b = true) : wordsT (b :: t) = wordsT t := by
  show (wordsF ((b :: t).length + 1) (b :: t) 0).map (·.1) = _
  unfold wordsF
  rw [if_neg hb, if_pos hg]
  exact wordsT_fuel (by simp)
theorem wordsT_word {b : UInt8} (t : List UInt8) (hg : gapB b = false) : wordsT (b :: t) = (b :: t).takeWhile (fun c => !gapB c) :: wordsT (t.dropWhile (fun c => !gapB c)) := by
  have hb : b ≠ 59 := by rintro rfl; exact absurd hg (by decide)
  have h1 : ((b :: t).dropWhile (fun c => !gapB c)) = t.dropWhile (fun c => !gapB c) := by rw [List.dropWhile_cons, if_pos (by simp [hg])]
  have := dropWhile_shorter (fun c => !gapB c) t
  show (wordsF ((b :: t).length + 1) (b :: t) 0).map (·.1) = _
  conv => lhs; unfold wordsF
  rw [if_neg hb, if_neg (by simp [hg]), List.map_cons, h1, wordsT_fuel (by simp; omega)]

/-- what stands for a space. -/
def gapL (c : List UInt8) : List UInt8 := 32 :: 59 :: (c ++ [10, 9, 32])
/-- the text with a gap for each space outside of comments. -/
def trL (c : List UInt8) : Bool → List UInt8 → List UInt8
  | _, [] => []
  | ins, b :: t =>
    let i2 := if b = 10 then false else if b = 59 then true else ins
    (if b = 32 ∧ i2 = false then gapL c else [b]) ++ trL c i2 t
theorem trL_other (c : List UInt8) {ins : Bool} {b : UInt8} (t : List UInt8) (h : b ≠ 32) (h2 : b ≠ 10) (h3 : b ≠ 59) : trL c ins (b :: t) = b :: trL c ins t := by
  simp [trL, h, h2, h3]
theorem trL_in (c : List UInt8) : ∀ t : List UInt8, (trL c true t).dropWhile (· != 10) = trL c true (t.dropWhile (· != 10))
  | [] => rfl
  | b :: t => by
    by_cases h : b = 10
    · subst h
      rfl
    · have e : trL c true (b :: t) = b :: trL c true t := by by_cases h2 : b = 59 <;> simp [trL, h, h2]
      rw [e, List.dropWhile_cons, if_pos (by simp [h]), List.dropWhile_cons, if_pos (by simp [h]), trL_in c t]
theorem dropWhile_to {q : UInt8 → Bool} : ∀ (l : List UInt8) {x : UInt8} (t : List UInt8), (∀ b ∈ l, q b = true) → q x = false → (l ++ x :: t).dropWhile q = x :: t
  | [], x, t, _, h => by rw [List.nil_append, List.dropWhile_cons, if_neg (by simp [h])]
  | b :: l, x, t, hl, h => by rw [List.cons_append, List.dropWhile_cons, if_pos (hl b (by simp)), dropWhile_to l t (fun y hy => hl y (by simp [hy])) h]
theorem takeWhile_to {q : UInt8 → Bool} : ∀ (l : List UInt8) {x : UInt8} (t : List UInt8), (∀ b ∈ l, q b = true) → q x = false → (l ++ x :: t).takeWhile q = l
  | [], x, t, _, h => by rw [List.nil_append, List.takeWhile_cons, if_neg (by simp [h])]
  | b :: l, x, t, hl, h => by rw [List.cons_append, List.takeWhile_cons, if_pos (hl b (by simp)), takeWhile_to l t (fun y hy => hl y (by simp [hy])) h]
theorem wordsT_gapL {c : List UInt8} (hc : (10 : UInt8) ∉ c) (x : List UInt8) : wordsT (gapL c ++ x) = wordsT x := by
  have e : gapL c ++ x = 32 :: 59 :: (c ++ 10 :: 9 :: 32 :: x) := by simp [gapL]
  rw [e, wordsT_gap _ (by decide) (by decide), wordsT_comment, dropWhile_to c _ (fun b hb => by
    have : b ≠ 10 := fun h => hc (h ▸ hb)
    simp [this]) (by decide), wordsT_gap _ (by decide) (by decide), wordsT_gap _ (by decide) (by decide), wordsT_gap _ (by decide) (by decide)]
theorem takeWhile_id {q : UInt8 → Bool} : ∀ {l : List UInt8}, (∀ b ∈ l, q b = true) → l.takeWhile q = l ∧ l.dropWhile q = []
  | [], _ => ⟨rfl, rfl⟩
  | b :: l, h => by
    obtain ⟨h1, h2⟩ := takeWhile_id (l := l) (fun y hy => h y (by simp [hy]))
    rw [List.takeWhile_cons, List.dropWhile_cons, if_pos (h b (by simp)), if_pos (h b (by simp)), h1, h2]
    exact ⟨rfl, rfl⟩
/-- a word in front stays. -/
theorem trL_word (c : List UInt8) : ∀ (l t : List UInt8), (∀ b ∈ l, gapB b = false) → trL c false (l ++ t) = l ++ trL c false t
  | [], t, _ => rfl
  | b :: l, t, h => by
    have hb := h b (by simp)
    rw [List.cons_append, trL_other c _ (by rintro rfl; exact absurd hb (by decide)) (by rintro rfl; exact absurd hb (by decide)) (by rintro rfl; exact absurd hb (by decide)), trL_word c l t (fun y hy => h y (by simp [hy])), List.cons_append]
theorem takeDrop (q : UInt8 → Bool) : ∀ l : List UInt8, ∃ x t, l = x ++ t ∧ x = l.takeWhile q ∧ t = l.dropWhile q ∧ (∀ b ∈ x, q b = true) ∧ (t = [] ∨ ∃ y u, t = y :: u ∧ q y = false)
  | [] => ⟨[], [], rfl, rfl, rfl, by simp, .inl rfl⟩
  | b :: l => by
    by_cases h : q b = true
    · obtain ⟨x, t, e1, e2, e3, e4, e5⟩ := takeDrop q l
      exact ⟨b :: x, t, by rw [List.cons_append, ← e1], by rw [List.takeWhile_cons, if_pos h, ← e2], by rw [List.dropWhile_cons, if_pos h, ← e3], fun y hy => by
        rcases List.mem_cons.1 hy with rfl | hy
        · exact h
        · exact e4 y hy, e5⟩
    · have h' : q b = false := by simpa using h
      exact ⟨[], b :: l, rfl, by rw [List.takeWhile_cons, if_neg h], by rw [List.dropWhile_cons, if_neg h], by simp, .inr ⟨b, l, rfl, h'⟩⟩
theorem trL_head (c : List UInt8) {y : UInt8} (u : List UInt8) (h : gapB y = true) : ∃ y' u', trL c false (y :: u) = y' :: u' ∧ gapB y' = true := by
  by_cases h1 : y = 32
  · subst h1
    exact ⟨32, 59 :: (c ++ [10, 9, 32]) ++ trL c false u, by simp [trL, gapL], by decide⟩
  · refine ⟨y, trL c (if y = 10 then false else if y = 59 then true else false) u, ?_, h⟩
    simp [trL, h1]
theorem wordsT_tr {c : List UInt8} (hc : (10 : UInt8) ∉ c) : ∀ (n : Nat) (s : List UInt8), s.length < n → wordsT (trL c false s) = wordsT s
  | 0, s, h => absurd h (Nat.not_lt_zero _)
  | n + 1, [], h => rfl
  | n + 1, b :: t, h => by
    have ht : t.length < n := by simp at h; omega
    by_cases h59 : b = 59
    · subst h59
      have e : trL c false (59 :: t) = 59 :: trL c true t := by simp [trL]
      rw [e, wordsT_comment, wordsT_comment, trL_in]
      obtain ⟨x, u, e1, e2, e3, e4, e5⟩ := takeDrop (· != 10) t
      rw [← e3]
      rcases e5 with rfl | ⟨y, v, rfl, hy⟩
      · rfl
      · obtain rfl : y = 10 := by simpa using hy
        have e6 : trL c true (10 :: v) = 10 :: trL c false v := by simp [trL]
        have hlen : v.length < n := by rw [e1] at ht; simp at ht; omega
        rw [e6, wordsT_gap _ (by decide) (by decide), wordsT_gap _ (by decide) (by decide), wordsT_tr hc n v hlen]
    · by_cases h32 : b = 32
      · subst h32
        have e : trL c false (32 :: t) = gapL c ++ trL c false t := by simp [trL]
        rw [e, wordsT_gapL hc, wordsT_gap _ (by decide) (by decide), wordsT_tr hc n t ht]
      · by_cases hg : gapB b = true
        · have e : trL c false (b :: t) = b :: trL c false t := by simp [trL, h32, h59]
          rw [e, wordsT_gap _ h59 hg, wordsT_gap _ h59 hg, wordsT_tr hc n t ht]
        · have hg' : gapB b = false := by simpa using hg
          obtain ⟨x, u, e1, e2, e3, e4, e5⟩ := takeDrop (fun d => !gapB d) (b :: t)
          have hx : x ≠ [] := by rintro rfl; rw [List.takeWhile_cons, if_pos (by simp [hg'])] at e2; cases e2
          obtain ⟨b', x', rfl⟩ : ∃ b' x', x = b' :: x' := by cases x with | nil => exact absurd rfl hx | cons a l => exact ⟨a, l, rfl⟩
          have hgx : ∀ d ∈ b' :: x', gapB d = false := fun d hd => by simpa using e4 d hd
          have hul : u.length < n := by have := congrArg List.length e1; simp at this; omega
          have key : ∀ z : List UInt8, (z = [] ∨ ∃ y v, z = y :: v ∧ gapB y = true) → wordsT ((b' :: x') ++ z) = (b' :: x') :: wordsT z := fun z hz => by
            rw [List.cons_append, wordsT_word _ (hgx b' (by simp)), ← List.cons_append]
            rcases hz with rfl | ⟨y, v, rfl, hy⟩
            · rw [List.append_nil, List.append_nil, (takeWhile_id e4).1, (takeWhile_id (fun d hd => e4 d (by simp [hd]))).2]
            · rw [takeWhile_to _ _ e4 (by simp [hy]), dropWhile_to _ _ (fun d hd => e4 d (by simp [hd])) (by simp [hy])]
          rw [e1, trL_word c _ u hgx, key u (by
            rcases e5 with h | ⟨y, v, h1, h2⟩
            · exact .inl h
            · exact .inr ⟨y, v, h1, by simpa using h2⟩), key _ (by
            rcases e5 with rfl | ⟨y, v, rfl, h2⟩
            · exact .inl rfl
            · obtain ⟨y', u', h3, h4⟩ := trL_head c v (y := y) (by simpa using h2)
              exact .inr ⟨y', u', h3, h4⟩), wordsT_tr hc n u hul]
theorem trL_len (c : List UInt8) : ∀ (s : List UInt8) (i : Bool), (trL c i s).length ≤ (c.length + 5) * s.length
  | [], _ => by simp [trL]
  | b :: t, i => by
    have e : ∀ (i2 : Bool) (q : Prop) [Decidable q], ((if q then gapL c else [b]) ++ trL c i2 t).length ≤ (c.length + 5) * (b :: t).length := fun i2 q _ => by
      have := trL_len c t i2
      rw [List.length_append, List.length_cons, Nat.mul_succ]
      by_cases hq : q
      · rw [if_pos hq]; simp [gapL]; omega
      · rw [if_neg hq]; simp; omega
    exact e _ _
/-- reading a text is reading its words. -/
theorem readL_tr {c s : List UInt8} (hc : (10 : UInt8) ∉ c) (h1 : s.length ≤ 8192) (h2 : (trL c false s).length ≤ 8192) : (readL s).strip = (readL (trL c false s)).strip := by
  rw [readL_eq h1, readL_eq h2]
  exact readW_strip ((wordsL s).length + 1) _ _ _ (by omega) (wordsT_tr hc (s.length + 1) s (by omega)).symm
end Go.Proofs.YtlbhggjkcfcobaaDoor
