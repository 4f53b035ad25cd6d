/- The words of a text that is cut at a word; of two texts in a row. No program in sight. -/
import Derived.Test.YtlbhggjkcfcobaaDoorAk
namespace Go.Proofs.YtlbhggjkcfcobaaDoor
open Go.RowKit Go.Proofs
set_option linter.unusedVariables false

theorem takeWhile_take_len (q : UInt8 → Bool) : ∀ (l : List UInt8) (m : Nat), ((l.take m).takeWhile q).length = min m (l.takeWhile q).length
  | [], m => by simp
  | b :: l, 0 => by simp
  | b :: l, m + 1 => by
    rw [List.take_succ_cons, List.takeWhile_cons, List.takeWhile_cons]
    cases q b with
    | true => simp only [if_true, List.length_cons]; rw [takeWhile_take_len q l m]; omega
    | false => simp
theorem take_getD {src : List UInt8} {i p : Nat} (h : i < p) : (src.take p).getD i 0 = src.getD i 0 := by
  simp [List.getD_eq_getElem?_getD, List.getElem?_take, h]
theorem take_runTo (q : UInt8 → Bool) {src : List UInt8} {i p : Nat} (h : i + runTo q src i ≤ p) : runTo q (src.take p) i = runTo q src i := by
  unfold runTo at h ⊢
  rw [List.drop_take, takeWhile_take_len]
  omega
theorem wordsA_cases {src : List UInt8} (Pr : Nat → Prop) (hend : ∀ i, src.length = i → Pr i)
    (hstep : ∀ i, i < src.length → (∀ j, i < j → j ≤ src.length → Pr j) → Pr i) : ∀ i, i ≤ src.length → Pr i := by
  have : ∀ k i, src.length - i ≤ k → i ≤ src.length → Pr i := fun k => by
    induction k with
    | zero => intro i h h2; exact hend i (by omega)
    | succ k ih =>
      intro i h h2
      rcases Nat.lt_or_ge i src.length with h3 | h3
      · exact hstep i h3 (fun j h4 h5 => ih j (by omega) h5)
      · exact hend i (by omega)
  exact fun i => this _ i (Nat.le_refl _)
theorem wordsA_next {src : List UInt8} {i : Nat} (h : i < src.length) :
    (src.getD i 0 = 59 ∧ i < i + runTo (· != 10) src i ∧ i + runTo (· != 10) src i ≤ src.length ∧ wordsA src i = wordsA src (i + runTo (· != 10) src i)) ∨
    (src.getD i 0 ≠ 59 ∧ gapB (src.getD i 0) = true ∧ wordsA src i = wordsA src (i + 1)) ∨
    (gapB (src.getD i 0) = false ∧ i < i + runTo (fun c => !gapB c) src i ∧ i + runTo (fun c => !gapB c) src i ≤ src.length ∧ wordsA src i = ((src.drop i).take (runTo (fun c => !gapB c) src i), i) :: wordsA src (i + runTo (fun c => !gapB c) src i)) := by
  cases hg : gapB (src.getD i 0) with
  | false => exact .inr (.inr ⟨rfl, by have := runTo_pos (p := fun c => !gapB c) h (by simpa using hg); omega, runTo_le _ (Nat.le_of_lt h), wordsA_word h hg⟩)
  | true =>
    by_cases h59 : src.getD i 0 = 59
    · exact .inl ⟨h59, by have := runTo_pos (p := (· != 10)) h (by rw [h59]; rfl); omega, runTo_le _ (Nat.le_of_lt h), wordsA_comment h h59⟩
    · exact .inr (.inl ⟨h59, rfl, wordsA_gap h h59 hg⟩)
theorem wordsA_take {src : List UInt8} : ∀ i, i ≤ src.length → ∀ pre post, wordsA src i = pre ++ post → i ≤ (nextW src.length post).2 ∧ (nextW src.length post).2 ≤ src.length ∧ wordsA (src.take (nextW src.length post).2) i = pre := by
  refine wordsA_cases _ (fun i hi pre post h => ?_) (fun i hi ih pre post h => ?_)
  · rw [wordsA_end (by omega)] at h
    obtain ⟨rfl, rfl⟩ := List.append_eq_nil_iff.1 h.symm
    refine ⟨by show i ≤ src.length; omega, Nat.le_refl _, ?_⟩
    exact wordsA_end (by rw [List.length_take]; omega)
  · obtain ⟨p, hp⟩ : ∃ p, p = (nextW src.length post).2 := ⟨_, rfl⟩
    rcases wordsA_next hi with ⟨h1, h2, h3, h4⟩ | ⟨h1, h2, h4⟩ | ⟨h1, h2, h3, h4⟩
    · obtain ⟨k1, k2, k3⟩ := ih _ h2 h3 pre post (by rw [← h4]; exact h)
      refine ⟨by omega, k2, ?_⟩
      rw [← hp] at k1 k2 k3 ⊢
      have hl : (src.take p).length = p := by rw [List.length_take]; omega
      rw [wordsA_comment (src := src.take p) (i := i) (by omega) (by rw [take_getD (by omega)]; exact h1), take_runTo _ k1]
      exact k3
    · obtain ⟨k1, k2, k3⟩ := ih (i + 1) (by omega) (by omega) pre post (by rw [← h4]; exact h)
      refine ⟨by omega, k2, ?_⟩
      rw [← hp] at k1 k2 k3 ⊢
      have hl : (src.take p).length = p := by rw [List.length_take]; omega
      rw [wordsA_gap (src := src.take p) (i := i) (by omega) (by rw [take_getD (by omega)]; exact h1) (by rw [take_getD (by omega)]; exact h2)]
      exact k3
    · rw [h4] at h
      rcases pre with _ | ⟨w, pre⟩
      · rw [List.nil_append] at h
        have hpi : p = i := by rw [hp, ← h]; rfl
        rw [← hp, hpi]
        exact ⟨Nat.le_refl _, by omega, wordsA_end (by rw [List.length_take]; omega)⟩
      · rw [List.cons_append] at h
        injection h with e1 e2
        obtain ⟨k1, k2, k3⟩ := ih _ h2 h3 pre post e2
        refine ⟨by omega, k2, ?_⟩
        rw [← hp] at k1 k2 k3 ⊢
        have hl : (src.take p).length = p := by rw [List.length_take]; omega
        rw [wordsA_word (src := src.take p) (i := i) (by omega) (by rw [take_getD (by omega)]; exact h1), take_runTo _ k1, k3, ← e1]
        congr 2
        rw [List.drop_take, List.take_take, Nat.min_eq_left (by omega)]
/-- the words ahead of a place at which a word begins, or of the end. -/
theorem wordsL_take {src : List UInt8} {pre post : List Wd} (h : wordsL src = pre ++ post) : (nextW src.length post).2 ≤ src.length ∧ wordsL (src.take (nextW src.length post).2) = pre := by
  obtain ⟨_, h2, h3⟩ := wordsA_take (src := src) 0 (Nat.zero_le _) pre post h
  exact ⟨h2, h3⟩
theorem readL_stop {src : List UInt8} {a : Nat} {e : Int} (hs : src.length ≤ 8192) (h : readL src = .bad a e) : a ≤ src.length ∧ ((∃ s' r', readL (src.take a) = .ok s' r') ∨ readL (src.take a) = .bad a 4) := by
  rw [readL_eq hs] at h
  obtain ⟨pre, post, h1, h2, h3⟩ := readW_stop _ _ _ (Nat.lt_succ_self _) h
  obtain ⟨h4, h5⟩ := wordsL_take h1
  rw [← h2] at h4 h5
  refine ⟨h4, ?_⟩
  have hl : (src.take a).length = a := by rw [List.length_take]; omega
  rw [readL_eq (by omega), h5, hl]
  exact h3
def shiftW (d : Nat) (w : Wd) : Wd := (w.1, w.2 + d)
theorem wordsF_shift (d : Nat) : ∀ (f : Nat) (s : List UInt8) (i : Nat), wordsF f s (i + d) = (wordsF f s i).map (shiftW d)
  | 0, _, _ => rfl
  | f + 1, [], _ => rfl
  | f + 1, b :: t, i => by
    rw [wordsF, wordsF]
    by_cases h1 : b = 59
    · rw [if_pos h1, if_pos h1, ← wordsF_shift d f]
      congr 1; omega
    · rw [if_neg h1, if_neg h1]
      by_cases h2 : gapB b = true
      · rw [if_pos h2, if_pos h2, ← wordsF_shift d f]
        congr 1; omega
      · rw [if_neg h2, if_neg h2, List.map_cons, ← wordsF_shift d f]
        show _ :: _ = _ :: _
        congr 2; omega
theorem takeWhile_stop (q : UInt8 → Bool) {c : UInt8} (hq : q c = false) : ∀ l t : List UInt8, (l ++ c :: t).takeWhile q = l.takeWhile q
  | [], t => by rw [List.nil_append, List.takeWhile_cons, hq]; rfl
  | b :: l, t => by
    rw [List.cons_append, List.takeWhile_cons, List.takeWhile_cons, takeWhile_stop q hq l t]
theorem runTo_stop (q : UInt8 → Bool) {a b : List UInt8} {i : Nat} (hq : q 10 = false) (hi : i ≤ a.length) : runTo q (a ++ 10 :: b) i = runTo q a i := by
  unfold runTo
  rw [List.drop_append_of_le_length hi, takeWhile_stop q hq]
theorem wordsA_join {a b : List UInt8} : ∀ i, i ≤ a.length → wordsA (a ++ 10 :: b) i = wordsA a i ++ (wordsL b).map (shiftW (a.length + 1)) := by
  refine wordsA_cases _ (fun i hi => ?_) (fun i hi ih => ?_)
  · subst hi
    have hlt : a.length < (a ++ 10 :: b).length := by simp
    have hg : (a ++ 10 :: b).getD a.length 0 = 10 := by simp [List.getD_eq_getElem?_getD]
    rw [wordsA_gap hlt (by rw [hg]; decide) (by rw [hg]; decide), wordsA_end (Nat.le_refl _), List.nil_append]
    unfold wordsL
    rw [← wordsF_shift, Nat.zero_add]
    unfold wordsA
    have hd : (a ++ 10 :: b).drop (a.length + 1) = b := by simp
    rw [hd]
    exact wordsF_fuel _ _ _ _ (by simp; omega) (by omega)
  · have hlt : i < (a ++ 10 :: b).length := by simp; omega
    have hg : (a ++ 10 :: b).getD i 0 = a.getD i 0 := by
      rw [List.getD_eq_getElem?_getD, List.getD_eq_getElem?_getD, List.getElem?_append_left hi]
    rcases wordsA_next hi with ⟨h1, h2, h3, h4⟩ | ⟨h1, h2, h4⟩ | ⟨h1, h2, h3, h4⟩
    · rw [wordsA_comment hlt (by rw [hg]; exact h1), runTo_stop _ (by rfl) (Nat.le_of_lt hi), h4]
      exact ih _ h2 h3
    · rw [wordsA_gap hlt (by rw [hg]; exact h1) (by rw [hg]; exact h2), h4]
      exact ih _ (by omega) (by omega)
    · rw [wordsA_word hlt (by rw [hg]; exact h1), runTo_stop _ (by rfl) (Nat.le_of_lt hi), h4, ih _ h2 h3, List.cons_append]
      congr 2
      rw [List.drop_append_of_le_length (Nat.le_of_lt hi), List.take_append_of_le_length (by rw [List.length_drop]; omega)]
/-- the words of two texts in a row. -/
theorem wordsL_join (a b : List UInt8) : wordsL (a ++ 10 :: b) = wordsL a ++ (wordsL b).map (shiftW (a.length + 1)) := wordsA_join 0 (Nat.zero_le _)
theorem map_shift (d : Nat) (l : List Wd) : (l.map (shiftW d)).map (·.1) = l.map (·.1) := by
  rw [List.map_map]; rfl
theorem readL_join {a b : List UInt8} {s s2 : AS} {r r2 : List Wd} (hl : a.length + b.length < 8192) (h1 : readL a = .ok s r) (h2 : readL (a ++ 10 :: b) = .ok s2 r2) :
    (∃ l, s2.arrs = s.arrs ++ l) ∧ (∃ l, s2.code = s.code ++ l) ∧ (∃ l, s2.ln = s.ln ++ l) ∧
    ∀ s3 r3, readL b = .ok s3 r3 → s2.code.length = s.code.length + s3.code.length ∧ s2.arrs.length = s.arrs.length + s3.arrs.length ∧ s2.ln.length = s.ln.length + s3.ln.length := by
  rw [readL_eq (by omega)] at h1
  rw [readL_eq (by simp; omega), wordsL_join, readW_app (n2 := (a ++ 10 :: b).length) _ _ _ _ _ _ (Nat.lt_succ_self _) h1] at h2
  obtain ⟨g1, g2, g3⟩ := readW_grew _ _ _ _ _ (Nat.lt_succ_self _) h2
  refine ⟨g1, g2, g3, fun s3 r3 h3 => ?_⟩
  rw [readL_eq (by omega)] at h3
  obtain ⟨x, y, z, q1, q2, q3, q4, q5, q6⟩ := readW_count _ _ _ _ _ _ _ _ _ (Nat.lt_succ_self _) (map_shift _ _) h2 h3
  simp only [AS.start, List.length_nil] at q2 q4 q6
  omega
end Go.Proofs.YtlbhggjkcfcobaaDoor
