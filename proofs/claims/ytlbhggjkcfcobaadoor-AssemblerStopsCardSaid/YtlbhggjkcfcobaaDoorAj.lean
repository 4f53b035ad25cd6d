/- The plain assembler: reading without fuel, what a step does, two texts in a row, the text ahead of an error. No program in sight. -/
import Derived.Test.YtlbhggjkcfcobaaDoorAf
namespace Go.Proofs.YtlbhggjkcfcobaaDoor
open Go.RowKit Go.Proofs
set_option linter.unusedVariables false

def readW (n : Nat) (s : AS) (ws : List Wd) : AR := readF n (ws.length + 1) s ws
theorem freshE_nil (s : AS) : freshE s [] = 4 := rfl
theorem fresh_end (s : AS) (n : Nat) : ¬ freshE s (nextW n []).1 = 0 := by show ¬ (4 : Int) = 0; decide
theorem valueL_nil (s : AS) : valueL s [] = (0, 4) := rfl
theorem indexL_nil (l : List (List UInt8)) : indexL l [] = (0, 4) := rfl
/-- how many words follow the first one of an item. -/
def widthL (x : List UInt8) : Nat :=
  if x = [98, 121, 116, 101, 115] then 2 else if x = [119, 111, 114, 100, 115] then 2 else if x = [108, 111, 99, 97, 108] then 1 else if x = [99, 111, 110, 115, 116] then 2
  else match findL x with | some op => if op ≤ 4 ∨ op = 35 then 1 else 0 | none => 0
/-- what an item declares or holds: arrays, locals, instructions. -/
def kindL (x : List UInt8) : Nat × Nat × Nat :=
  if x = [98, 121, 116, 101, 115] then (1, 0, 0) else if x = [119, 111, 114, 100, 115] then (1, 0, 0) else if x = [108, 111, 99, 97, 108] then (0, 1, 0) else if x = [99, 111, 110, 115, 116] then (0, 0, 0)
  else (0, 0, 1)
structure Grew (s s' : AS) (x : List UInt8) : Prop where
  arrs : ∃ l, s'.arrs = s.arrs ++ l ∧ l.length = (kindL x).1
  an : ∃ l, s'.an = s.an ++ l ∧ l.length = (kindL x).1
  ln : ∃ l, s'.ln = s.ln ++ l ∧ l.length = (kindL x).2.1
  code : ∃ l, s'.code = s.code ++ l ∧ l.length = (kindL x).2.2
theorem arrayL_ok {n : Nat} {b : Bool} {s s' : AS} {r r' : List Wd} (h : arrayL n b s r = .ok s' r') : ∃ x y t, r = x :: y :: t ∧ r' = t ∧ freshE s x.1 = 0 ∧ s.an.length < 8 ∧ (valueL s y.1).2 = 0 ∧ 1 ≤ (valueL s y.1).1 ∧ ((valueL s y.1).1 : Int) + s.cells ≤ 65536 ∧ s' = { s with arrs := s.arrs ++ [⟨b, (valueL s y.1).1⟩], an := s.an ++ [x.1] } := by
  unfold arrayL at h
  dsimp only at h
  by_cases h1 : freshE s (nextW n r).1 = 0
  · by_cases h2 : 8 ≤ s.an.length
    · rw [if_neg (by simp [h1]), if_pos h2] at h; cases h
    · by_cases h3 : (valueL s (nextW n r.tail).1).2 = 0
      · rw [if_neg (by simp [h1]), if_neg h2, if_neg (by simp [h3])] at h
        split at h
        · cases h
        · rename_i h4
          injection h with e1 e2
          rcases r with _ | ⟨x, _ | ⟨y, t⟩⟩
          · exact absurd h1 (fresh_end s n)
          · exact absurd h3 (by rw [List.tail_cons]; show ¬ (valueL s []).2 = 0; rw [valueL_nil]; decide)
          · exact ⟨x, y, t, rfl, e2.symm, h1, by omega, h3, by have : ¬ ((valueL s y.1).1 : Int) < 1 := fun h => h4 (.inl h); omega, by have : ¬ 65536 < ((valueL s y.1).1 : Int) + s.cells := fun h => h4 (.inr h); omega, e1.symm⟩
      · rw [if_neg (by simp [h1]), if_neg h2, if_pos h3] at h; cases h
  · rw [if_pos h1] at h; cases h
theorem localL_ok {n : Nat} {s s' : AS} {r r' : List Wd} (h : localL n s r = .ok s' r') : ∃ x t, r = x :: t ∧ r' = t ∧ freshE s x.1 = 0 ∧ s.ln.length < 16 ∧ s' = { s with ln := s.ln ++ [x.1] } := by
  unfold localL at h
  dsimp only at h
  by_cases h1 : freshE s (nextW n r).1 = 0
  · by_cases h2 : 16 ≤ s.ln.length
    · rw [if_neg (by simp [h1]), if_pos h2] at h; cases h
    · rw [if_neg (by simp [h1]), if_neg h2] at h
      injection h with e1 e2
      rcases r with _ | ⟨x, t⟩
      · exact absurd h1 (fresh_end s n)
      · exact ⟨x, t, rfl, e2.symm, h1, by omega, e1.symm⟩
  · rw [if_pos h1] at h; cases h
theorem constL_ok {n : Nat} {s s' : AS} {r r' : List Wd} (h : constL n s r = .ok s' r') : ∃ x y t, r = x :: y :: t ∧ r' = t ∧ freshE s x.1 = 0 ∧ (valueL s y.1).2 = 0 ∧ s' = { s with cn := s.cn ++ [(x.1, (valueL s y.1).1)] } := by
  unfold constL at h
  dsimp only at h
  by_cases h1 : freshE s (nextW n r).1 = 0
  · by_cases h3 : (valueL s (nextW n r.tail).1).2 = 0
    · rw [if_neg (by simp [h1]), if_neg (by simp [h3])] at h
      injection h with e1 e2
      rcases r with _ | ⟨x, _ | ⟨y, t⟩⟩
      · exact absurd h1 (fresh_end s n)
      · exact absurd h3 (by rw [List.tail_cons]; show ¬ (valueL s []).2 = 0; rw [valueL_nil]; decide)
      · exact ⟨x, y, t, rfl, e2.symm, h1, h3, e1.symm⟩
    · rw [if_neg (by simp [h1]), if_pos h3] at h; cases h
  · rw [if_pos h1] at h; cases h
/-- the argument of an operation, and its error. -/
def argL (s : AS) (op : Nat) (x : List UInt8) : Nat × Int :=
  if op = 0 then valueL s x
  else if op = 35 then ((valueL s x).1, if (valueL s x).2 ≠ 0 then (valueL s x).2 else if 16 ≤ (valueL s x).1 then 2 else 0)
  else if op = 1 ∨ op = 2 then indexL s.ln x
  else indexL s.an x
theorem instrL_eq (n : Nat) (w : Wd) (s : AS) (r : List Wd) : instrL n w s r = match findL w.1 with
    | none => .bad w.2 4
    | some op => if 1024 ≤ s.code.length then .bad w.2 6 else if op ≤ 4 ∨ op = 35 then
        (if (argL s op (nextW n r).1).2 ≠ 0 then .bad (nextW n r).2 (argL s op (nextW n r).1).2 else .ok { s with code := s.code ++ [⟨op, (argL s op (nextW n r).1).1⟩] } r.tail)
      else .ok { s with code := s.code ++ [⟨op, 0⟩] } r := by
  unfold instrL argL
  cases findL w.1 with
  | none => rfl
  | some op =>
    dsimp only
    by_cases h0 : 1024 ≤ s.code.length
    · rw [if_pos h0, if_pos h0]
    rw [if_neg h0, if_neg h0]
    by_cases h1 : op = 0
    · subst h1; simp
    by_cases h2 : op = 35
    · subst h2
      simp only [if_neg (show ¬ (35 : Nat) = 0 by decide), if_pos rfl, if_pos (show (35 : Nat) ≤ 4 ∨ (35 : Nat) = 35 from .inr rfl)]
      by_cases h3 : (valueL s (nextW n r).1).2 = 0
      · by_cases h4 : 16 ≤ (valueL s (nextW n r).1).1
        · simp [h3, h4]
        · simp [h3, h4]
      · simp [h3]
    by_cases h3 : op = 1 ∨ op = 2
    · simp only [if_neg h1, if_neg h2, if_pos h3, if_pos (show op ≤ 4 ∨ op = 35 by omega)]
    by_cases h4 : op = 3 ∨ op = 4
    · simp only [if_neg h1, if_neg h2, if_neg h3, if_pos h4, if_pos (show op ≤ 4 ∨ op = 35 by omega)]
    · simp only [if_neg h1, if_neg h2, if_neg h3, if_neg h4, if_neg (show ¬ (op ≤ 4 ∨ op = 35) by omega)]
theorem argL_nil (s : AS) (op : Nat) : (argL s op []).2 = 4 := by
  unfold argL
  split
  · rfl
  split
  · rfl
  split <;> rfl
theorem instrL_ok {n : Nat} {w : Wd} {s s' : AS} {r r' : List Wd} (h : instrL n w s r = .ok s' r') : ∃ op, findL w.1 = some op ∧ s.code.length < 1024 ∧
    ((op ≤ 4 ∨ op = 35) ∧ (∃ x t, r = x :: t ∧ r' = t ∧ (argL s op x.1).2 = 0 ∧ s' = { s with code := s.code ++ [⟨op, (argL s op x.1).1⟩] }) ∨ ¬ (op ≤ 4 ∨ op = 35) ∧ r' = r ∧ s' = { s with code := s.code ++ [⟨op, 0⟩] }) := by
  rw [instrL_eq] at h
  cases hf : findL w.1 with
  | none => rw [hf] at h; cases h
  | some op =>
    rw [hf] at h
    dsimp only at h
    by_cases h0 : 1024 ≤ s.code.length
    · rw [if_pos h0] at h; cases h
    rw [if_neg h0] at h
    by_cases h1 : op ≤ 4 ∨ op = 35
    · rw [if_pos h1] at h
      by_cases h2 : (argL s op (nextW n r).1).2 = 0
      · rw [if_neg (by simp [h2])] at h
        injection h with e1 e2
        rcases r with _ | ⟨x, t⟩
        · exact absurd h2 (by show ¬ (argL s op []).2 = 0; rw [argL_nil]; decide)
        · exact ⟨op, rfl, by omega, .inl ⟨h1, x, t, rfl, e2.symm, h2, e1.symm⟩⟩
      · rw [if_pos h2] at h; cases h
    · rw [if_neg h1] at h
      injection h with e1 e2
      exact ⟨op, rfl, by omega, .inr ⟨h1, e2.symm, e1.symm⟩⟩
theorem stepL_grew {n : Nat} {w : Wd} {s s' : AS} {r r' : List Wd} (h : stepL n w s r = .ok s' r') : r' = r.drop (widthL w.1) ∧ widthL w.1 ≤ r.length ∧ Grew s s' w.1 := by
  unfold stepL at h
  by_cases h1 : w.1 = [98, 121, 116, 101, 115]
  · rw [if_pos h1] at h
    obtain ⟨x, y, t, rfl, rfl, _, _, _, _, _, rfl⟩ := arrayL_ok h
    rw [h1]
    exact ⟨rfl, by simp [widthL], ⟨_, rfl, rfl⟩, ⟨_, rfl, rfl⟩, ⟨[], (List.append_nil _).symm, rfl⟩, ⟨[], (List.append_nil _).symm, rfl⟩⟩
  rw [if_neg h1] at h
  by_cases h2 : w.1 = [119, 111, 114, 100, 115]
  · rw [if_pos h2] at h
    obtain ⟨x, y, t, rfl, rfl, _, _, _, _, _, rfl⟩ := arrayL_ok h
    rw [h2]
    exact ⟨rfl, by simp [widthL], ⟨_, rfl, rfl⟩, ⟨_, rfl, rfl⟩, ⟨[], (List.append_nil _).symm, rfl⟩, ⟨[], (List.append_nil _).symm, rfl⟩⟩
  rw [if_neg h2] at h
  by_cases h3 : w.1 = [108, 111, 99, 97, 108]
  · rw [if_pos h3] at h
    obtain ⟨x, t, rfl, rfl, _, _, rfl⟩ := localL_ok h
    rw [h3]
    exact ⟨rfl, by simp [widthL], ⟨[], (List.append_nil _).symm, rfl⟩, ⟨[], (List.append_nil _).symm, rfl⟩, ⟨_, rfl, rfl⟩, ⟨[], (List.append_nil _).symm, rfl⟩⟩
  rw [if_neg h3] at h
  by_cases h4 : w.1 = [99, 111, 110, 115, 116]
  · rw [if_pos h4] at h
    obtain ⟨x, y, t, rfl, rfl, _, _, rfl⟩ := constL_ok h
    rw [h4]
    exact ⟨rfl, by simp [widthL], ⟨[], (List.append_nil _).symm, rfl⟩, ⟨[], (List.append_nil _).symm, rfl⟩, ⟨[], (List.append_nil _).symm, rfl⟩, ⟨[], (List.append_nil _).symm, rfl⟩⟩
  rw [if_neg h4] at h
  have hk : kindL w.1 = (0, 0, 1) := by unfold kindL; rw [if_neg h1, if_neg h2, if_neg h3, if_neg h4]
  obtain ⟨op, hf, _, ⟨ho, x, t, rfl, rfl, _, rfl⟩ | ⟨ho, rfl, rfl⟩⟩ := instrL_ok h
  · have hw : widthL w.1 = 1 := by unfold widthL; rw [if_neg h1, if_neg h2, if_neg h3, if_neg h4, hf]; exact if_pos ho
    rw [hw]
    refine ⟨rfl, by simp, ?_, ?_, ?_, ?_⟩
    · rw [hk]; exact ⟨[], (List.append_nil _).symm, rfl⟩
    · rw [hk]; exact ⟨[], (List.append_nil _).symm, rfl⟩
    · rw [hk]; exact ⟨[], (List.append_nil _).symm, rfl⟩
    · rw [hk]; exact ⟨_, rfl, rfl⟩
  · have hw : widthL w.1 = 0 := by unfold widthL; rw [if_neg h1, if_neg h2, if_neg h3, if_neg h4, hf]; exact if_neg ho
    rw [hw]
    refine ⟨rfl, by simp, ?_, ?_, ?_, ?_⟩
    · rw [hk]; exact ⟨[], (List.append_nil _).symm, rfl⟩
    · rw [hk]; exact ⟨[], (List.append_nil _).symm, rfl⟩
    · rw [hk]; exact ⟨[], (List.append_nil _).symm, rfl⟩
    · rw [hk]; exact ⟨_, rfl, rfl⟩
theorem readF_enough (n : Nat) : ∀ (f g : Nat) (s : AS) (ws : List Wd), ws.length < f → ws.length < g → readF n f s ws = readF n g s ws
  | 0, _, _, _, h, _ => by omega
  | _ + 1, 0, _, _, _, h => by omega
  | f + 1, g + 1, s, [], _, _ => rfl
  | f + 1, g + 1, s, w :: r, h, h' => by
    simp only [List.length_cons] at h h'
    rw [readF, readF]
    cases hs : stepL n w s r with
    | bad a e => rfl
    | ok s' r' =>
      have := (stepL_grew hs).1
      have hl : r'.length ≤ r.length := by rw [this, List.length_drop]; omega
      exact readF_enough n f g s' r' (by omega) (by omega)
theorem readW_nil (n : Nat) (s : AS) : readW n s [] = .ok s [] := rfl
theorem readW_bad {n : Nat} {w : Wd} {s : AS} {r : List Wd} {a : Nat} {e : Int} (h : stepL n w s r = .bad a e) : readW n s (w :: r) = .bad a e := by
  unfold readW; rw [readF, h]
theorem readW_ok {n : Nat} {w : Wd} {s s' : AS} {r r' : List Wd} (h : stepL n w s r = .ok s' r') : readW n s (w :: r) = readW n s' r' := by
  have := (stepL_grew h).1
  have hl : r'.length ≤ r.length := by rw [this, List.length_drop]; omega
  unfold readW; rw [readF, h]
  exact readF_enough n _ _ s' r' (by simp; omega) (by omega)
theorem readL_eq {src : List UInt8} (h : src.length ≤ 8192) : readL src = readW src.length AS.start (wordsL src) := by
  unfold readL; rw [if_neg (by omega)]; rfl
/-- a reading that comes to its end leaves no words. -/
theorem readW_end {n : Nat} : ∀ (f : Nat) (ws : List Wd) (s s' : AS) (r : List Wd), ws.length < f → readW n s ws = .ok s' r → r = []
  | 0, _, _, _, _, h, _ => by omega
  | f + 1, [], s, s', r, _, h => by rw [readW_nil] at h; injection h with _ h; exact h.symm
  | f + 1, w :: t, s, s', r, hf, h => by
    cases hs : stepL n w s t with
    | bad a e => rw [readW_bad hs] at h; cases h
    | ok s1 r1 =>
      rw [readW_ok hs] at h
      have := (stepL_grew hs).1
      have hl : r1.length ≤ t.length := by rw [this, List.length_drop]; omega
      exact readW_end f r1 s1 s' r (by simp at hf; omega) h
end Go.Proofs.YtlbhggjkcfcobaaDoor
