/- The words of a text, step by step, plainly. No program in sight. -/
import Derived.Test.YtlbhggjkcfcobaaDoorAd
namespace Go.Proofs.YtlbhggjkcfcobaaDoor
open Go.RowKit Go.Proofs
set_option linter.unusedVariables false

theorem dropWhile_shorter {α : Type} (p : α → Bool) : ∀ l : List α, (l.dropWhile p).length ≤ l.length
  | [] => Nat.le_refl _
  | a :: l => by
    rw [List.dropWhile_cons]
    split
    · have := dropWhile_shorter p l; simp; omega
    · exact Nat.le_refl _
theorem wordsF_fuel : ∀ (f f' : Nat) (s : List UInt8) (i : Nat), s.length < f → s.length < f' → wordsF f s i = wordsF f' s i
  | 0, _, s, i, h, _ => by omega
  | _ + 1, 0, s, i, _, h => by omega
  | f + 1, f' + 1, [], i, _, _ => rfl
  | f + 1, f' + 1, b :: t, i, h, h' => by
    have hd : ∀ p : UInt8 → Bool, p b = true → ((b :: t).dropWhile p).length ≤ t.length := fun p hp => by
      rw [List.dropWhile_cons_of_pos hp]; exact dropWhile_shorter p t
    rw [wordsF, wordsF]
    simp only [List.length_cons] at h h'
    by_cases h1 : b = 59
    · rw [if_pos h1, if_pos h1]
      have := hd (· != 10) (by rw [h1]; rfl)
      exact wordsF_fuel f f' _ _ (by omega) (by omega)
    · rw [if_neg h1, if_neg h1]
      by_cases h2 : gapB b = true
      · rw [if_pos h2, if_pos h2]
        exact wordsF_fuel f f' _ _ (by omega) (by omega)
      · rw [if_neg h2, if_neg h2]
        have := hd (fun c => !gapB c) (by simpa using h2)
        rw [wordsF_fuel f f' _ _ (by omega) (by omega)]
/-- the words from a place on. -/
def wordsA (src : List UInt8) (i : Nat) : List Wd := wordsF (src.length - i + 1) (src.drop i) i
theorem wordsA_start (src : List UInt8) : wordsA src 0 = wordsL src := rfl
theorem wordsA_end {src : List UInt8} {i : Nat} (h : src.length ≤ i) : wordsA src i = [] := by
  unfold wordsA
  rw [List.drop_of_length_le h]
  rfl
theorem drop_getD {src : List UInt8} {i : Nat} (h : i < src.length) : src.drop i = src.getD i 0 :: src.drop (i + 1) := by
  rw [List.getD_eq_getElem?_getD, List.getElem?_eq_getElem h]
  exact List.drop_eq_getElem_cons h
/-- how far a run goes from a place on. -/
def runTo (p : UInt8 → Bool) (src : List UInt8) (i : Nat) : Nat := ((src.drop i).takeWhile p).length
theorem takeWhile_len {α : Type} (p : α → Bool) : ∀ l : List α, (l.takeWhile p).length + (l.dropWhile p).length = l.length
  | [] => rfl
  | a :: l => by
    rw [List.takeWhile_cons, List.dropWhile_cons]
    have := takeWhile_len p l
    split
    · simp; omega
    · simp
theorem dropWhile_drop' {α : Type} (p : α → Bool) : ∀ l : List α, l.dropWhile p = l.drop (l.takeWhile p).length
  | [] => rfl
  | a :: l => by
    rw [List.takeWhile_cons, List.dropWhile_cons]
    split
    · simpa using dropWhile_drop' p l
    · rfl
theorem takeWhile_take' {α : Type} (p : α → Bool) : ∀ l : List α, l.takeWhile p = l.take (l.takeWhile p).length
  | [] => rfl
  | a :: l => by
    rw [List.takeWhile_cons]
    split
    · simpa using takeWhile_take' p l
    · rfl
theorem runTo_le (p : UInt8 → Bool) {src : List UInt8} {i : Nat} (h : i ≤ src.length) : i + runTo p src i ≤ src.length := by
  unfold runTo
  have := takeWhile_len p (src.drop i)
  rw [List.length_drop] at this
  omega
theorem runTo_pos {p : UInt8 → Bool} {src : List UInt8} {i : Nat} (h : i < src.length) (hp : p (src.getD i 0) = true) : 0 < runTo p src i := by
  unfold runTo
  rw [drop_getD h, List.takeWhile_cons_of_pos hp]
  simp
theorem wordsA_comment {src : List UInt8} {i : Nat} (h : i < src.length) (hb : src.getD i 0 = 59) : wordsA src i = wordsA src (i + runTo (· != 10) src i) := by
  have hr := runTo_le (· != 10) (Nat.le_of_lt h)
  have hp := runTo_pos (p := (· != 10)) h (by rw [hb]; rfl)
  have hd := drop_getD h
  unfold wordsA
  rw [hd, wordsF, if_pos hb, ← hd, dropWhile_drop', List.drop_drop]
  exact wordsF_fuel _ _ _ _ (by rw [List.length_drop]; unfold runTo at hp hr; omega) (by rw [List.length_drop]; first | omega | (unfold runTo; omega))
theorem wordsA_gap {src : List UInt8} {i : Nat} (h : i < src.length) (hb : src.getD i 0 ≠ 59) (hg : gapB (src.getD i 0) = true) : wordsA src i = wordsA src (i + 1) := by
  have hd := drop_getD h
  unfold wordsA
  rw [hd, wordsF, if_neg hb, if_pos hg]
  exact wordsF_fuel _ _ _ _ (by rw [List.length_drop]; omega) (by rw [List.length_drop]; omega)
theorem wordsA_word {src : List UInt8} {i : Nat} (h : i < src.length) (hg : gapB (src.getD i 0) = false) :
    wordsA src i = ((src.drop i).take (runTo (fun c => !gapB c) src i), i) :: wordsA src (i + runTo (fun c => !gapB c) src i) := by
  have hr := runTo_le (fun c => !gapB c) (Nat.le_of_lt h)
  have hp := runTo_pos (p := fun c => !gapB c) h (by simpa using hg)
  have hb : src.getD i 0 ≠ 59 := fun e => by rw [e] at hg; cases hg
  have hd := drop_getD h
  unfold wordsA
  rw [hd, wordsF, if_neg hb, if_neg (by rw [hg]; simp), ← hd, dropWhile_drop', List.drop_drop]
  rw [show (src.drop i).takeWhile (fun c => !gapB c) = (src.drop i).take (runTo (fun c => !gapB c) src i) from takeWhile_take' _ _]
  rw [show ((src.drop i).take (runTo (fun c => !gapB c) src i)).length = runTo (fun c => !gapB c) src i by
    rw [List.length_take, List.length_drop]; omega]
  rw [wordsF_fuel (src.length - i) (src.length - (i + runTo (fun c => !gapB c) src i) + 1) _ _ (by rw [List.length_drop]; omega) (by rw [List.length_drop]; omega)]
theorem indexByte_run : ∀ (l : List UInt8) (c : UInt8), Lib.indexByte l c = if l.contains c = true then ((l.takeWhile (· != c)).length : Int) else -1
  | [], c => rfl
  | b :: l, c => by
    have ih := indexByte_run l c
    rw [Lib.indexByte]
    by_cases h : b = c
    · subst h
      simp
    · have h2 : (b :: l).contains c = l.contains c := by simp [Ne.symm h]
      rw [if_neg (by simpa using h), h2, List.takeWhile_cons_of_pos (by simpa using h), ih]
      by_cases h3 : l.contains c = true
      · rw [if_pos h3, if_pos h3, if_neg (by rw [beq_iff_eq]; omega)]
        simp
      · rw [if_neg h3, if_neg h3]; rfl
/-- where the first gap is. -/
def gapIx (x : List UInt8) : Int := if x.any gapB = true then ((x.takeWhile (fun c => !gapB c)).length : Int) else -1
theorem takeWhile_all {p : UInt8 → Bool} : ∀ {x : List UInt8}, (∀ b ∈ x, p b = true) → (x.takeWhile p).length = x.length
  | [], _ => rfl
  | a :: l, h => by rw [List.takeWhile_cons_of_pos (h a (by simp))]; simpa using takeWhile_all (fun b hb => h b (by simp [hb]))
end Go.Proofs.YtlbhggjkcfcobaaDoor
