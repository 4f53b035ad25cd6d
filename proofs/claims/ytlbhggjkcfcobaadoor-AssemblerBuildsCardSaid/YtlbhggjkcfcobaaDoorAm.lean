/- The plain assembler: reading without fuel, what a step does, two texts in a row, the text ahead of an error. No program in sight. The plain assembler: what reading depends on; two texts in a row; the text ahead of an error. No program in sight. The words of a text that is cut at a word; of two texts in a row. No program in sight. What is read is in form, and uses what is declared. No program in sight. -/
import Derived.Test.YtlbhggjkcfcobaaDoorAf
import Derived.Test.YtlbhggjkcfcobaaDoorIi
namespace Go.Proofs.YtlbhggjkcfcobaaDoor
open Go.RowKit Go.Proofs
set_option linter.unusedVariables false

def readW (n : Nat) (s : AS) (ws : List Wd) : AR := readF n (ws.length + 1) s ws
theorem freshE_nil (s : AS) : freshE s [] = 4 := rfl
theorem fresh_end (s : AS) (n : Nat) : ¬ freshE s (nextW n []).1 = 0 := by show ¬ (4 : Int) = 0; decide
theorem valueL_nil (s : AS) : valueL s [] = (0, 4) := rfl
theorem indexL_nil (l : List (List UInt8)) : indexL l [] = (0, 4) := rfl
/-- how many words follow the first one of an item. -/
def widthL (x : List UInt8) : Nat :=
  if x = [98, 121, 116, 101, 115] then 2 else if x = [119, 111, 114, 100, 115] then 2 else if x = [108, 111, 99, 97, 108] then 1 else if x = [99, 111, 110, 115, 116] then 2
  else match findL x with | some op => if op ≤ 4 ∨ op = 35 then 1 else 0 | none => 0
/-- what an item declares or holds: arrays, locals, instructions. -/
def kindL (x : List UInt8) : Nat × Nat × Nat :=
  if x = [98, 121, 116, 101, 115] then (1, 0, 0) else if x = [119, 111, 114, 100, 115] then (1, 0, 0) else if x = [108, 111, 99, 97, 108] then (0, 1, 0) else if x = [99, 111, 110, 115, 116] then (0, 0, 0)
  else (0, 0, 1)
structure Grew (s s' : AS) (x : List UInt8) : Prop where
  arrs : ∃ l, s'.arrs = s.arrs ++ l ∧ l.length = (kindL x).1
  an : ∃ l, s'.an = s.an ++ l ∧ l.length = (kindL x).1
  ln : ∃ l, s'.ln = s.ln ++ l ∧ l.length = (kindL x).2.1
  code : ∃ l, s'.code = s.code ++ l ∧ l.length = (kindL x).2.2
theorem arrayL_ok {n : Nat} {b : Bool} {s s' : AS} {r r' : List Wd} (h : arrayL n b s r = .ok s' r') : ∃ x y t, r = x :: y :: t ∧ r' = t ∧ freshE s x.1 = 0 ∧ s.an.length < 8 ∧ (valueL s y.1).2 = 0 ∧ 1 ≤ (valueL s y.1).1 ∧ ((valueL s y.1).1 : Int) + s.cells ≤ 65536 ∧ s' = { s with arrs := s.arrs ++ [⟨b, (valueL s y.1).1⟩], an := s.an ++ [x.1] } := by
  unfold arrayL at h
  dsimp only at h
  by_cases h1 : freshE s (nextW n r).1 = 0
  · by_cases h2 : 8 ≤ s.an.length
    · rw [if_neg (by simp [h1]), if_pos h2] at h; cases h
    · by_cases h3 : (valueL s (nextW n r.tail).1).2 = 0
      · rw [if_neg (by simp [h1]), if_neg h2, if_neg (by simp [h3])] at h
        split at h
        · cases h
        · rename_i h4
          injection h with e1 e2
          rcases r with _ | ⟨x, _ | ⟨y, t⟩⟩
          · exact absurd h1 (fresh_end s n)
          · exact absurd h3 (by rw [List.tail_cons]; show ¬ (valueL s []).2 = 0; rw [valueL_nil]; decide)
          · exact ⟨x, y, t, rfl, e2.symm, h1, by omega, h3, by have : ¬ ((valueL s y.1).1 : Int) < 1 := fun h => h4 (.inl h); omega, by have : ¬ 65536 < ((valueL s y.1).1 : Int) + s.cells := fun h => h4 (.inr h); omega, e1.symm⟩
      · rw [if_neg (by simp [h1]), if_neg h2, if_pos h3] at h; cases h
  · rw [if_pos h1] at h; cases h
theorem localL_ok {n : Nat} {s s' : AS} {r r' : List Wd} (h : localL n s r = .ok s' r') : ∃ x t, r = x :: t ∧ r' = t ∧ freshE s x.1 = 0 ∧ s.ln.length < 16 ∧ s' = { s with ln := s.ln ++ [x.1] } := by
  unfold localL at h
  dsimp only at h
  by_cases h1 : freshE s (nextW n r).1 = 0
  · by_cases h2 : 16 ≤ s.ln.length
    · rw [if_neg (by simp [h1]), if_pos h2] at h; cases h
    · rw [if_neg (by simp [h1]), if_neg h2] at h
      injection h with e1 e2
      rcases r with _ | ⟨x, t⟩
      · exact absurd h1 (fresh_end s n)
      · exact ⟨x, t, rfl, e2.symm, h1, by omega, e1.symm⟩
  · rw [if_pos h1] at h; cases h
theorem constL_ok {n : Nat} {s s' : AS} {r r' : List Wd} (h : constL n s r = .ok s' r') : ∃ x y t, r = x :: y :: t ∧ r' = t ∧ freshE s x.1 = 0 ∧ (valueL s y.1).2 = 0 ∧ s' = { s with cn := s.cn ++ [(x.1, (valueL s y.1).1)] } := by
  unfold constL at h
  dsimp only at h
  by_cases h1 : freshE s (nextW n r).1 = 0
  · by_cases h3 : (valueL s (nextW n r.tail).1).2 = 0
    · rw [if_neg (by simp [h1]), if_neg (by simp [h3])] at h
      injection h with e1 e2
      rcases r with _ | ⟨x, _ | ⟨y, t⟩⟩
      · exact absurd h1 (fresh_end s n)
      · exact absurd h3 (by rw [List.tail_cons]; show ¬ (valueL s []).2 = 0; rw [valueL_nil]; decide)
      · exact ⟨x, y, t, rfl, e2.symm, h1, h3, e1.symm⟩
    · rw [if_neg (by simp [h1]), if_pos h3] at h; cases h
  · rw [if_pos h1] at h; cases h
/-- the argument of an operation, and its error. -/
def argL (s : AS) (op : Nat) (x : List UInt8) : Nat × Int :=
  if op = 0 then valueL s x
  else if op = 35 then ((valueL s x).1, if (valueL s x).2 ≠ 0 then (valueL s x).2 else if 16 ≤ (valueL s x).1 then 2 else 0)
  else if op = 1 ∨ op = 2 then indexL s.ln x
  else indexL s.an x
theorem instrL_eq (n : Nat) (w : Wd) (s : AS) (r : List Wd) : instrL n w s r = match findL w.1 with
    | none => .bad w.2 4
    | some op => if 1024 ≤ s.code.length then .bad w.2 6 else if op ≤ 4 ∨ op = 35 then
        (if (argL s op (nextW n r).1).2 ≠ 0 then .bad (nextW n r).2 (argL s op (nextW n r).1).2 else .ok { s with code := s.code ++ [⟨op, (argL s op (nextW n r).1).1⟩] } r.tail)
      else .ok { s with code := s.code ++ [⟨op, 0⟩] } r := by
  unfold instrL argL
  cases findL w.1 with
  | none => rfl
  | some op =>
    dsimp only
    by_cases h0 : 1024 ≤ s.code.length
    · rw [if_pos h0, if_pos h0]
    rw [if_neg h0, if_neg h0]
    by_cases h1 : op = 0
    · subst h1; simp
    by_cases h2 : op = 35
    · subst h2
      simp only [if_neg (show ¬ (35 : Nat) = 0 by decide), if_pos rfl, if_pos (show (35 : Nat) ≤ 4 ∨ (35 : Nat) = 35 from .inr rfl)]
      by_cases h3 : (valueL s (nextW n r).1).2 = 0
      · by_cases h4 : 16 ≤ (valueL s (nextW n r).1).1
        · simp [h3, h4]
        · simp [h3, h4]
      · simp [h3]
    by_cases h3 : op = 1 ∨ op = 2
    · simp only [if_neg h1, if_neg h2, if_pos h3, if_pos (show op ≤ 4 ∨ op = 35 by omega)]
    by_cases h4 : op = 3 ∨ op = 4
    · simp only [if_neg h1, if_neg h2, if_neg h3, if_pos h4, if_pos (show op ≤ 4 ∨ op = 35 by omega)]
    · simp only [if_neg h1, if_neg h2, if_neg h3, if_neg h4, if_neg (show ¬ (op ≤ 4 ∨ op = 35) by omega)]
theorem argL_nil (s : AS) (op : Nat) : (argL s op []).2 = 4 := by
  unfold argL
  split
  · rfl
  split
  · rfl
  split <;> rfl
theorem instrL_ok {n : Nat} {w : Wd} {s s' : AS} {r r' : List Wd} (h : instrL n w s r = .ok s' r') : ∃ op, findL w.1 = some op ∧ s.code.length < 1024 ∧
    ((op ≤ 4 ∨ op = 35) ∧ (∃ x t, r = x :: t ∧ r' = t ∧ (argL s op x.1).2 = 0 ∧ s' = { s with code := s.code ++ [⟨op, (argL s op x.1).1⟩] }) ∨ ¬ (op ≤ 4 ∨ op = 35) ∧ r' = r ∧ s' = { s with code := s.code ++ [⟨op, 0⟩] }) := by
  rw [instrL_eq] at h
  cases hf : findL w.1 with
  | none => rw [hf] at h; cases h
  | some op =>
    rw [hf] at h
    dsimp only at h
    by_cases h0 : 1024 ≤ s.code.length
    · rw [if_pos h0] at h; cases h
    rw [if_neg h0] at h
    by_cases h1 : op ≤ 4 ∨ op = 35
    · rw [if_pos h1] at h
      by_cases h2 : (argL s op (nextW n r).1).2 = 0
      · rw [if_neg (by simp [h2])] at h
        injection h with e1 e2
        rcases r with _ | ⟨x, t⟩
        · exact absurd h2 (by show ¬ (argL s op []).2 = 0; rw [argL_nil]; decide)
        · exact ⟨op, rfl, by omega, .inl ⟨h1, x, t, rfl, e2.symm, h2, e1.symm⟩⟩
      · rw [if_pos h2] at h; cases h
    · rw [if_neg h1] at h
      injection h with e1 e2
      exact ⟨op, rfl, by omega, .inr ⟨h1, e2.symm, e1.symm⟩⟩
theorem stepL_grew {n : Nat} {w : Wd} {s s' : AS} {r r' : List Wd} (h : stepL n w s r = .ok s' r') : r' = r.drop (widthL w.1) ∧ widthL w.1 ≤ r.length ∧ Grew s s' w.1 := by
  unfold stepL at h
  by_cases h1 : w.1 = [98, 121, 116, 101, 115]
  · rw [if_pos h1] at h
    obtain ⟨x, y, t, rfl, rfl, _, _, _, _, _, rfl⟩ := arrayL_ok h
    rw [h1]
    exact ⟨rfl, by simp [widthL], ⟨_, rfl, rfl⟩, ⟨_, rfl, rfl⟩, ⟨[], (List.append_nil _).symm, rfl⟩, ⟨[], (List.append_nil _).symm, rfl⟩⟩
  rw [if_neg h1] at h
  by_cases h2 : w.1 = [119, 111, 114, 100, 115]
  · rw [if_pos h2] at h
    obtain ⟨x, y, t, rfl, rfl, _, _, _, _, _, rfl⟩ := arrayL_ok h
    rw [h2]
    exact ⟨rfl, by simp [widthL], ⟨_, rfl, rfl⟩, ⟨_, rfl, rfl⟩, ⟨[], (List.append_nil _).symm, rfl⟩, ⟨[], (List.append_nil _).symm, rfl⟩⟩
  rw [if_neg h2] at h
  by_cases h3 : w.1 = [108, 111, 99, 97, 108]
  · rw [if_pos h3] at h
    obtain ⟨x, t, rfl, rfl, _, _, rfl⟩ := localL_ok h
    rw [h3]
    exact ⟨rfl, by simp [widthL], ⟨[], (List.append_nil _).symm, rfl⟩, ⟨[], (List.append_nil _).symm, rfl⟩, ⟨_, rfl, rfl⟩, ⟨[], (List.append_nil _).symm, rfl⟩⟩
  rw [if_neg h3] at h
  by_cases h4 : w.1 = [99, 111, 110, 115, 116]
  · rw [if_pos h4] at h
    obtain ⟨x, y, t, rfl, rfl, _, _, rfl⟩ := constL_ok h
    rw [h4]
    exact ⟨rfl, by simp [widthL], ⟨[], (List.append_nil _).symm, rfl⟩, ⟨[], (List.append_nil _).symm, rfl⟩, ⟨[], (List.append_nil _).symm, rfl⟩, ⟨[], (List.append_nil _).symm, rfl⟩⟩
  rw [if_neg h4] at h
  have hk : kindL w.1 = (0, 0, 1) := by unfold kindL; rw [if_neg h1, if_neg h2, if_neg h3, if_neg h4]
  obtain ⟨op, hf, _, ⟨ho, x, t, rfl, rfl, _, rfl⟩ | ⟨ho, rfl, rfl⟩⟩ := instrL_ok h
  · have hw : widthL w.1 = 1 := by unfold widthL; rw [if_neg h1, if_neg h2, if_neg h3, if_neg h4, hf]; exact if_pos ho
    rw [hw]
    refine ⟨rfl, by simp, ?_, ?_, ?_, ?_⟩
    · rw [hk]; exact ⟨[], (List.append_nil _).symm, rfl⟩
    · rw [hk]; exact ⟨[], (List.append_nil _).symm, rfl⟩
    · rw [hk]; exact ⟨[], (List.append_nil _).symm, rfl⟩
    · rw [hk]; exact ⟨_, rfl, rfl⟩
  · have hw : widthL w.1 = 0 := by unfold widthL; rw [if_neg h1, if_neg h2, if_neg h3, if_neg h4, hf]; exact if_neg ho
    rw [hw]
    refine ⟨rfl, by simp, ?_, ?_, ?_, ?_⟩
    · rw [hk]; exact ⟨[], (List.append_nil _).symm, rfl⟩
    · rw [hk]; exact ⟨[], (List.append_nil _).symm, rfl⟩
    · rw [hk]; exact ⟨[], (List.append_nil _).symm, rfl⟩
    · rw [hk]; exact ⟨_, rfl, rfl⟩
theorem readF_enough (n : Nat) : ∀ (f g : Nat) (s : AS) (ws : List Wd), ws.length < f → ws.length < g → readF n f s ws = readF n g s ws
  | 0, _, _, _, h, _ => by omega
  | _ + 1, 0, _, _, _, h => by omega
  | f + 1, g + 1, s, [], _, _ => rfl
  | f + 1, g + 1, s, w :: r, h, h' => by
    simp only [List.length_cons] at h h'
    rw [readF, readF]
    cases hs : stepL n w s r with
    | bad a e => rfl
    | ok s' r' =>
      have := (stepL_grew hs).1
      have hl : r'.length ≤ r.length := by rw [this, List.length_drop]; omega
      exact readF_enough n f g s' r' (by omega) (by omega)
theorem readW_nil (n : Nat) (s : AS) : readW n s [] = .ok s [] := rfl
theorem readW_bad {n : Nat} {w : Wd} {s : AS} {r : List Wd} {a : Nat} {e : Int} (h : stepL n w s r = .bad a e) : readW n s (w :: r) = .bad a e := by
  unfold readW; rw [readF, h]
theorem readW_ok {n : Nat} {w : Wd} {s s' : AS} {r r' : List Wd} (h : stepL n w s r = .ok s' r') : readW n s (w :: r) = readW n s' r' := by
  have := (stepL_grew h).1
  have hl : r'.length ≤ r.length := by rw [this, List.length_drop]; omega
  unfold readW; rw [readF, h]
  exact readF_enough n _ _ s' r' (by simp; omega) (by omega)
theorem readL_eq {src : List UInt8} (h : src.length ≤ 8192) : readL src = readW src.length AS.start (wordsL src) := by
  unfold readL; rw [if_neg (by omega)]; rfl
/-- a reading that comes to its end leaves no words. -/
theorem readW_end {n : Nat} : ∀ (f : Nat) (ws : List Wd) (s s' : AS) (r : List Wd), ws.length < f → readW n s ws = .ok s' r → r = []
  | 0, _, _, _, _, h, _ => by omega
  | f + 1, [], s, s', r, _, h => by rw [readW_nil] at h; injection h with _ h; exact h.symm
  | f + 1, w :: t, s, s', r, hf, h => by
    cases hs : stepL n w s t with
    | bad a e => rw [readW_bad hs] at h; cases h
    | ok s1 r1 =>
      rw [readW_ok hs] at h
      have := (stepL_grew hs).1
      have hl : r1.length ≤ t.length := by rw [this, List.length_drop]; omega
      exact readW_end f r1 s1 s' r (by simp at hf; omega) h
end Go.Proofs.YtlbhggjkcfcobaaDoor
namespace Go.Proofs.YtlbhggjkcfcobaaDoor
open Go.RowKit Go.Proofs
set_option linter.unusedVariables false

def AR.strip : AR → Option Int × Option (AS × List (List UInt8))
  | .bad _ e => (some e, none)
  | .ok s r => (none, some (s, r.map (·.1)))
theorem strip_bad (a : Nat) (e : Int) : (AR.bad a e).strip = (some e, none) := rfl
theorem strip_ok (s : AS) (r : List Wd) : (AR.ok s r).strip = (none, some (s, r.map (·.1))) := rfl
theorem strip_ite (c : Prop) [Decidable c] (a b : AR) : (if c then a else b).strip = if c then a.strip else b.strip := by split <;> rfl
theorem nextW_fst (n : Nat) (r : List Wd) : (nextW n r).1 = (r.map (·.1)).headD [] := by cases r <;> rfl
theorem map_tail' (r : List Wd) : r.tail.map (·.1) = (r.map (·.1)).tail := by cases r <;> rfl
theorem stepL_strip {n n2 : Nat} {w w2 : Wd} {s : AS} {r r2 : List Wd} (hw : w.1 = w2.1) (hr : r.map (·.1) = r2.map (·.1)) : (stepL n w s r).strip = (stepL n2 w2 s r2).strip := by
  have h1 : (nextW n r).1 = (nextW n2 r2).1 := by rw [nextW_fst, nextW_fst, hr]
  have h2 : (nextW n r.tail).1 = (nextW n2 r2.tail).1 := by rw [nextW_fst, nextW_fst, map_tail', map_tail', hr]
  have t1 : r.tail.map (·.1) = r2.tail.map (·.1) := by rw [map_tail', map_tail', hr]
  have t2 : r.tail.tail.map (·.1) = r2.tail.tail.map (·.1) := by rw [map_tail', t1, ← map_tail']
  have ha : ∀ b, (arrayL n b s r).strip = (arrayL n2 b s r2).strip := fun b => by
    unfold arrayL
    dsimp only
    rw [← h1, ← h2]
    simp only [strip_ite, strip_bad, strip_ok, t2]
  have hl : (localL n s r).strip = (localL n2 s r2).strip := by
    unfold localL
    dsimp only
    rw [← h1]
    simp only [strip_ite, strip_bad, strip_ok, t1]
  have hc : (constL n s r).strip = (constL n2 s r2).strip := by
    unfold constL
    dsimp only
    rw [← h1, ← h2]
    simp only [strip_ite, strip_bad, strip_ok, t2]
  have hi : (instrL n w s r).strip = (instrL n2 w2 s r2).strip := by
    rw [instrL_eq, instrL_eq, ← hw]
    cases findL w.1 with
    | none => rfl
    | some op =>
      dsimp only
      rw [← h1]
      simp only [strip_ite, strip_bad, strip_ok, t1, hr]
  unfold stepL
  rw [← hw]
  simp only [strip_ite, ha, hl, hc, hi]
theorem readW_strip {n n2 : Nat} : ∀ (f : Nat) (s : AS) (ws ws2 : List Wd), ws.length < f → ws.map (·.1) = ws2.map (·.1) → (readW n s ws).strip = (readW n2 s ws2).strip
  | 0, _, _, _, h, _ => by omega
  | f + 1, s, [], ws2, _, he => by
    cases ws2 with
    | nil => rfl
    | cons x t => simp at he
  | f + 1, s, w :: r, [], _, he => by simp at he
  | f + 1, s, w :: r, w2 :: r2, hf, he => by
    rw [List.map_cons, List.map_cons] at he
    injection he with hw hr
    have hs := stepL_strip (n := n) (n2 := n2) (s := s) hw hr
    cases h1 : stepL n w s r with
    | bad a e =>
      rw [h1] at hs
      cases h2 : stepL n2 w2 s r2 with
      | bad a2 e2 =>
        rw [h2] at hs
        rw [readW_bad h1, readW_bad h2]
        exact hs
      | ok s2 r2' => rw [h2] at hs; simp [AR.strip] at hs
    | ok s1 r1 =>
      rw [h1] at hs
      cases h2 : stepL n2 w2 s r2 with
      | bad a2 e2 => rw [h2] at hs; simp [AR.strip] at hs
      | ok s2 r2' =>
        rw [h2] at hs
        simp only [AR.strip, Prod.mk.injEq, true_and, Option.some.injEq] at hs
        rw [readW_ok h1, readW_ok h2, ← hs.1]
        have := (stepL_grew h1).1
        have hl : r1.length ≤ r.length := by rw [this, List.length_drop]; omega
        exact readW_strip f s1 r1 r2' (by simp at hf; omega) hs.2
theorem take_two {r2 : List Wd} {a b : List UInt8} (h : (r2.take 2).map (·.1) = [a, b]) : ∃ x y t, r2 = x :: y :: t ∧ x.1 = a ∧ y.1 = b := by
  rcases r2 with _ | ⟨x, _ | ⟨y, t⟩⟩
  · simp at h
  · simp at h
  · simp at h; exact ⟨x, y, t, rfl, h.1, h.2⟩
theorem take_one {r2 : List Wd} {a : List UInt8} (h : (r2.take 1).map (·.1) = [a]) : ∃ x t, r2 = x :: t ∧ x.1 = a := by
  rcases r2 with _ | ⟨x, t⟩
  · simp at h
  · simp at h; exact ⟨x, t, rfl, h⟩
/-- a step that succeeds looks at the words of its item alone. -/
theorem stepL_cong {n n2 : Nat} {w w2 : Wd} {s s' : AS} {r r' r2 : List Wd} (h : stepL n w s r = .ok s' r') (hw : w2.1 = w.1) (hr : (r2.take (widthL w.1)).map (·.1) = (r.take (widthL w.1)).map (·.1)) :
    stepL n2 w2 s r2 = .ok s' (r2.drop (widthL w.1)) := by
  have hg := stepL_grew h
  have hs := stepL_strip (n := n) (n2 := n) (w := w) (w2 := w) (s := s) (r := r.take (widthL w.1)) (r2 := r.take (widthL w.1)) rfl rfl
  unfold stepL at h ⊢
  rw [hw]
  by_cases h1 : w.1 = [98, 121, 116, 101, 115]
  · rw [if_pos h1] at h ⊢
    obtain ⟨x, y, t, rfl, rfl, q1, q2, q3, q4, q5, rfl⟩ := arrayL_ok h
    rw [h1] at hr ⊢
    obtain ⟨x2, y2, t2, rfl, e1, e2⟩ := take_two (r2 := r2) (a := x.1) (b := y.1) hr
    show arrayL n2 false s (x2 :: y2 :: t2) = .ok _ t2
    unfold arrayL
    simp only [nextW, List.tail_cons, e1, e2]
    rw [if_neg (by simp [q1]), if_neg (by omega), if_neg (by simp [q3]), if_neg (by omega)]
  rw [if_neg h1] at h ⊢
  by_cases h2 : w.1 = [119, 111, 114, 100, 115]
  · rw [if_pos h2] at h ⊢
    obtain ⟨x, y, t, rfl, rfl, q1, q2, q3, q4, q5, rfl⟩ := arrayL_ok h
    rw [h2] at hr ⊢
    obtain ⟨x2, y2, t2, rfl, e1, e2⟩ := take_two (r2 := r2) (a := x.1) (b := y.1) hr
    show arrayL n2 true s (x2 :: y2 :: t2) = .ok _ t2
    unfold arrayL
    simp only [nextW, List.tail_cons, e1, e2]
    rw [if_neg (by simp [q1]), if_neg (by omega), if_neg (by simp [q3]), if_neg (by omega)]
  rw [if_neg h2] at h ⊢
  by_cases h3 : w.1 = [108, 111, 99, 97, 108]
  · rw [if_pos h3] at h ⊢
    obtain ⟨x, t, rfl, rfl, q1, q2, rfl⟩ := localL_ok h
    rw [h3] at hr ⊢
    obtain ⟨x2, t2, rfl, e1⟩ := take_one (r2 := r2) (a := x.1) hr
    show localL n2 s (x2 :: t2) = .ok _ t2
    unfold localL
    simp only [nextW, List.tail_cons, e1]
    rw [if_neg (by simp [q1]), if_neg (by omega)]
  rw [if_neg h3] at h ⊢
  by_cases h4 : w.1 = [99, 111, 110, 115, 116]
  · rw [if_pos h4] at h ⊢
    obtain ⟨x, y, t, rfl, rfl, q1, q3, rfl⟩ := constL_ok h
    rw [h4] at hr ⊢
    obtain ⟨x2, y2, t2, rfl, e1, e2⟩ := take_two (r2 := r2) (a := x.1) (b := y.1) hr
    show constL n2 s (x2 :: y2 :: t2) = .ok _ t2
    unfold constL
    simp only [nextW, List.tail_cons, e1, e2]
    rw [if_neg (by simp [q1]), if_neg (by simp [q3])]
  rw [if_neg h4] at h ⊢
  rw [instrL_eq, hw]
  obtain ⟨op, hf, hc, ⟨ho, x, t, rfl, rfl, q1, rfl⟩ | ⟨ho, rfl, rfl⟩⟩ := instrL_ok h
  · have hwd : widthL w.1 = 1 := by unfold widthL; rw [if_neg h1, if_neg h2, if_neg h3, if_neg h4, hf]; exact if_pos ho
    rw [hwd] at hr ⊢
    obtain ⟨x2, t2, rfl, e1⟩ := take_one (r2 := r2) (a := x.1) hr
    rw [hf]
    simp only [nextW, List.tail_cons, e1]
    rw [if_neg (by omega), if_pos ho, if_neg (by simp [q1])]
    rfl
  · have hwd : widthL w.1 = 0 := by unfold widthL; rw [if_neg h1, if_neg h2, if_neg h3, if_neg h4, hf]; exact if_neg ho
    rw [hwd, hf]
    simp only [List.drop_zero]
    rw [if_neg (by omega), if_neg ho]
/-- a text that is read whole, and more words behind it. -/
theorem readW_app {n n2 : Nat} : ∀ (f : Nat) (ws : List Wd) (s s' : AS) (r x : List Wd), ws.length < f → readW n s ws = .ok s' r → readW n2 s (ws ++ x) = readW n2 s' x
  | 0, _, _, _, _, _, h, _ => by omega
  | f + 1, [], s, s', r, x, _, h => by
    rw [readW_nil] at h; injection h with h _; rw [← h]; rfl
  | f + 1, w :: t, s, s', r, x, hf, h => by
    cases hs : stepL n w s t with
    | bad a e => rw [readW_bad hs] at h; cases h
    | ok s1 r1 =>
      rw [readW_ok hs] at h
      obtain ⟨hr1, hwl, _⟩ := stepL_grew hs
      have hl : r1.length ≤ t.length := by rw [hr1, List.length_drop]; omega
      have hc := stepL_cong (n2 := n2) (w2 := w) (r2 := t ++ x) hs rfl (by rw [List.take_append_of_le_length hwl])
      rw [List.cons_append, readW_ok hc, List.drop_append_of_le_length hwl, ← hr1]
      exact readW_app f r1 s1 s' r x (by simp at hf; omega) h
theorem Grew.step {s s' : AS} {x : List UInt8} (h : Grew s s' x) : (∃ l, s'.arrs = s.arrs ++ l) ∧ (∃ l, s'.code = s.code ++ l) ∧ (∃ l, s'.ln = s.ln ++ l) :=
  ⟨h.arrs.imp fun _ h => h.1, h.code.imp fun _ h => h.1, h.ln.imp fun _ h => h.1⟩
theorem readW_grew {n : Nat} : ∀ (f : Nat) (ws : List Wd) (s s' : AS) (r : List Wd), ws.length < f → readW n s ws = .ok s' r → (∃ l, s'.arrs = s.arrs ++ l) ∧ (∃ l, s'.code = s.code ++ l) ∧ (∃ l, s'.ln = s.ln ++ l)
  | 0, _, _, _, _, h, _ => by omega
  | f + 1, [], s, s', r, _, h => by
    rw [readW_nil] at h; injection h with h _; rw [← h]
    exact ⟨⟨[], by simp⟩, ⟨[], by simp⟩, ⟨[], by simp⟩⟩
  | f + 1, w :: t, s, s', r, hf, h => by
    cases hs : stepL n w s t with
    | bad a e => rw [readW_bad hs] at h; cases h
    | ok s1 r1 =>
      rw [readW_ok hs] at h
      obtain ⟨hr1, hwl, hg⟩ := stepL_grew hs
      have hl : r1.length ≤ t.length := by rw [hr1, List.length_drop]; omega
      obtain ⟨⟨a1, i1⟩, ⟨a2, i2⟩, ⟨a3, i3⟩⟩ := readW_grew f r1 s1 s' r (by simp at hf; omega) h
      obtain ⟨⟨b1, j1⟩, ⟨b2, j2⟩, ⟨b3, j3⟩⟩ := hg.step
      exact ⟨⟨b1 ++ a1, by rw [i1, j1, List.append_assoc]⟩, ⟨b2 ++ a2, by rw [i2, j2, List.append_assoc]⟩, ⟨b3 ++ a3, by rw [i3, j3, List.append_assoc]⟩⟩
/-- the same words, read twice: each time as much is declared and held. -/
theorem readW_count {n n2 : Nat} : ∀ (f : Nat) (ws ws2 : List Wd) (s s' s2 s2' : AS) (r r2 : List Wd), ws.length < f → ws.map (·.1) = ws2.map (·.1) → readW n s ws = .ok s' r → readW n2 s2 ws2 = .ok s2' r2 →
    ∃ a l c, s'.arrs.length = s.arrs.length + a ∧ s2'.arrs.length = s2.arrs.length + a ∧ s'.ln.length = s.ln.length + l ∧ s2'.ln.length = s2.ln.length + l ∧ s'.code.length = s.code.length + c ∧ s2'.code.length = s2.code.length + c
  | 0, _, _, _, _, _, _, _, _, h, _, _, _ => by omega
  | f + 1, [], ws2, s, s', s2, s2', r, r2, _, he, h, h2 => by
    have : ws2 = [] := by cases ws2 with | nil => rfl | cons x t => simp at he
    subst this
    rw [readW_nil] at h h2
    injection h with h _; injection h2 with h2 _
    subst h h2
    exact ⟨0, 0, 0, rfl, rfl, rfl, rfl, rfl, rfl⟩
  | f + 1, w :: t, [], s, s', s2, s2', r, r2, _, he, _, _ => by simp at he
  | f + 1, w :: t, w2 :: t2, s, s', s2, s2', r, r2, hf, he, h, h2 => by
    rw [List.map_cons, List.map_cons] at he
    injection he with hw hr
    cases hs : stepL n w s t with
    | bad a e => rw [readW_bad hs] at h; cases h
    | ok s1 r1 =>
      cases hs2 : stepL n2 w2 s2 t2 with
      | bad a e => rw [readW_bad hs2] at h2; cases h2
      | ok s3 r3 =>
        rw [readW_ok hs] at h
        rw [readW_ok hs2] at h2
        obtain ⟨hr1, hwl, hg⟩ := stepL_grew hs
        obtain ⟨hr3, hwl2, hg2⟩ := stepL_grew hs2
        have hl : r1.length ≤ t.length := by rw [hr1, List.length_drop]; omega
        have hm : r1.map (·.1) = r3.map (·.1) := by rw [hr1, hr3, List.map_drop, List.map_drop, hr, hw]
        obtain ⟨a, l, c, q1, q2, q3, q4, q5, q6⟩ := readW_count f r1 r3 s1 s' s3 s2' r r2 (by simp at hf; omega) hm h h2
        rw [← hw] at hg2
        obtain ⟨a1, i1, k1⟩ := hg.arrs
        obtain ⟨a2, i2, k2⟩ := hg.ln
        obtain ⟨a3, i3, k3⟩ := hg.code
        obtain ⟨b1, j1, m1⟩ := hg2.arrs
        obtain ⟨b2, j2, m2⟩ := hg2.ln
        obtain ⟨b3, j3, m3⟩ := hg2.code
        rw [i1, List.length_append, k1] at q1
        rw [j1, List.length_append, m1] at q2
        rw [i2, List.length_append, k2] at q3
        rw [j2, List.length_append, m2] at q4
        rw [i3, List.length_append, k3] at q5
        rw [j3, List.length_append, m3] at q6
        exact ⟨(kindL w.1).1 + a, (kindL w.1).2.1 + l, (kindL w.1).2.2 + c, by omega, by omega, by omega, by omega, by omega, by omega⟩
/-- where an error is, and what is read ahead of it. -/
theorem stepL_bad {n : Nat} {w : Wd} {s : AS} {r : List Wd} {a : Nat} {e : Int} (h : stepL n w s r = .bad a e) :
    a = w.2 ∨ (a = (nextW n r).2 ∧ ∀ a', stepL a' w s [] = .bad a' 4) ∨ (∃ x t, r = x :: t ∧ a = (nextW n t).2 ∧ ∀ a', stepL a' w s [x] = .bad a' 4) := by
  have harr : ∀ b, arrayL n b s r = .bad a e → (a = (nextW n r).2 ∧ ∀ a', arrayL a' b s [] = .bad a' 4) ∨ (∃ x t, r = x :: t ∧ a = (nextW n t).2 ∧ ∀ a', arrayL a' b s [x] = .bad a' 4) := fun b h => by
    have h0 : ∀ a', arrayL a' b s [] = .bad a' 4 := fun a' => rfl
    unfold arrayL at h
    dsimp only at h
    by_cases h1 : freshE s (nextW n r).1 = 0
    · rw [if_neg (by simp [h1])] at h
      rcases r with _ | ⟨x, t⟩
      · exact absurd h1 (fresh_end s n)
      by_cases h2 : 8 ≤ s.an.length
      · rw [if_pos h2] at h
        injection h with e1 e2
        exact .inl ⟨e1.symm, h0⟩
      · rw [if_neg h2] at h
        have h3 : a = (nextW n t).2 := by
          rw [List.tail_cons] at h
          split at h
          · injection h with e1 e2; exact e1.symm
          split at h
          · injection h with e1 e2; exact e1.symm
          · cases h
        refine .inr ⟨x, t, rfl, h3, fun a' => ?_⟩
        have h1' : freshE s x.1 = 0 := h1
        have h5 : (valueL s (nextW a' (List.tail [x])).1).2 ≠ 0 := by show ¬ (4 : Int) = 0; decide
        show (if freshE s x.1 ≠ 0 then _ else if 8 ≤ s.an.length then _ else if (valueL s (nextW a' (List.tail [x])).1).2 ≠ 0 then AR.bad a' 4 else _) = _
        rw [if_neg (by simp [h1']), if_neg h2, if_pos h5]
    · rw [if_pos h1] at h
      injection h with e1 e2
      exact .inl ⟨e1.symm, h0⟩
  unfold stepL at h ⊢
  by_cases h1 : w.1 = [98, 121, 116, 101, 115]
  · simp only [if_pos h1] at h ⊢
    exact .inr (harr _ h)
  simp only [if_neg h1] at h ⊢
  by_cases h2 : w.1 = [119, 111, 114, 100, 115]
  · simp only [if_pos h2] at h ⊢
    exact .inr (harr _ h)
  simp only [if_neg h2] at h ⊢
  by_cases h3 : w.1 = [108, 111, 99, 97, 108]
  · simp only [if_pos h3] at h ⊢
    refine .inr (.inl ⟨?_, fun a' => rfl⟩)
    unfold localL at h
    dsimp only at h
    split at h
    · injection h with e1 e2; exact e1.symm
    split at h
    · injection h with e1 e2; exact e1.symm
    · cases h
  simp only [if_neg h3] at h ⊢
  by_cases h4 : w.1 = [99, 111, 110, 115, 116]
  · simp only [if_pos h4] at h ⊢
    unfold constL at h
    dsimp only at h
    by_cases h5 : freshE s (nextW n r).1 = 0
    · rw [if_neg (by simp [h5])] at h
      rcases r with _ | ⟨x, t⟩
      · exact absurd h5 (fresh_end s n)
      refine .inr (.inr ⟨x, t, rfl, ?_, fun a' => ?_⟩)
      · rw [List.tail_cons] at h
        split at h
        · injection h with e1 e2; exact e1.symm
        · cases h
      · have h1' : freshE s x.1 = 0 := h5
        have h5 : (valueL s (nextW a' (List.tail [x])).1).2 ≠ 0 := by show ¬ (4 : Int) = 0; decide
        show (if freshE s x.1 ≠ 0 then _ else if (valueL s (nextW a' (List.tail [x])).1).2 ≠ 0 then AR.bad a' 4 else _) = _
        rw [if_neg (by simp [h1']), if_pos h5]
    · rw [if_pos h5] at h
      injection h with e1 e2
      exact .inr (.inl ⟨e1.symm, fun a' => rfl⟩)
  simp only [if_neg h4] at h ⊢
  rw [instrL_eq] at h
  simp only [instrL_eq]
  cases hf : findL w.1 with
  | none =>
    rw [hf] at h
    injection h with e1 e2
    exact .inl e1.symm
  | some op =>
    rw [hf] at h
    dsimp only at h ⊢
    by_cases h5 : 1024 ≤ s.code.length
    · rw [if_pos h5] at h
      injection h with e1 e2
      exact .inl e1.symm
    rw [if_neg h5] at h
    by_cases h6 : op ≤ 4 ∨ op = 35
    · rw [if_pos h6] at h
      have ha : a = (nextW n r).2 := by
        split at h
        · injection h with e1 e2; exact e1.symm
        · cases h
      refine .inr (.inl ⟨ha, fun a' => ?_⟩)
      rw [if_neg h5, if_pos h6]
      have h7 : (argL s op (nextW a' []).1).2 = 4 := argL_nil s op
      rw [if_pos (by rw [h7]; decide), h7]
      rfl
    · rw [if_neg h6] at h; cases h
theorem readW_stop {n : Nat} {a : Nat} {e : Int} : ∀ (f : Nat) (ws : List Wd) (s : AS), ws.length < f → readW n s ws = .bad a e →
    ∃ pre post, ws = pre ++ post ∧ a = (nextW n post).2 ∧ ((∃ s' r', readW a s pre = .ok s' r') ∨ readW a s pre = .bad a 4)
  | 0, _, _, h, _ => by omega
  | f + 1, [], s, _, h => by rw [readW_nil] at h; cases h
  | f + 1, w :: r, s, hf, h => by
    cases hs : stepL n w s r with
    | ok s1 r1 =>
      rw [readW_ok hs] at h
      obtain ⟨hr1, hwl, _⟩ := stepL_grew hs
      have hl : r1.length ≤ r.length := by rw [hr1, List.length_drop]; omega
      obtain ⟨pre, post, h1, h2, h3⟩ := readW_stop f r1 s1 (by simp at hf; omega) h
      have hc := stepL_cong (n2 := a) (w2 := w) (r2 := r.take (widthL w.1) ++ pre) hs rfl (by rw [List.take_append_of_le_length (by rw [List.length_take]; omega), List.take_take, Nat.min_self])
      have hd : (r.take (widthL w.1) ++ pre).drop (widthL w.1) = pre := by
        rw [List.drop_append_of_le_length (by rw [List.length_take]; omega), List.drop_take, Nat.sub_self, List.take_zero, List.nil_append]
      rw [hd] at hc
      refine ⟨w :: (r.take (widthL w.1) ++ pre), post, ?_, h2, ?_⟩
      · rw [List.cons_append, List.append_assoc, ← h1, hr1, List.take_append_drop]
      · rw [readW_ok hc]; exact h3
    | bad a1 e1 =>
      rw [readW_bad hs] at h
      injection h with h1 h2
      subst h1
      rcases stepL_bad hs with h3 | ⟨h3, h4⟩ | ⟨x, t, rfl, h3, h4⟩
      · exact ⟨[], w :: r, rfl, h3, .inl ⟨s, [], readW_nil _ _⟩⟩
      · exact ⟨[w], r, rfl, h3, .inr (readW_bad (h4 _))⟩
      · exact ⟨[w, x], t, rfl, h3, .inr (readW_bad (h4 _))⟩
end Go.Proofs.YtlbhggjkcfcobaaDoor
namespace Go.Proofs.YtlbhggjkcfcobaaDoor
open Go.RowKit Go.Proofs
set_option linter.unusedVariables false

theorem takeWhile_take_len (q : UInt8 → Bool) : ∀ (l : List UInt8) (m : Nat), ((l.take m).takeWhile q).length = min m (l.takeWhile q).length
  | [], m => by simp
  | b :: l, 0 => by simp
  | b :: l, m + 1 => by
    rw [List.take_succ_cons, List.takeWhile_cons, List.takeWhile_cons]
    cases q b with
    | true => simp only [if_true, List.length_cons]; rw [takeWhile_take_len q l m]; omega
    | false => simp
theorem take_getD {src : List UInt8} {i p : Nat} (h : i < p) : (src.take p).getD i 0 = src.getD i 0 := by
  simp [List.getD_eq_getElem?_getD, List.getElem?_take, h]
theorem take_runTo (q : UInt8 → Bool) {src : List UInt8} {i p : Nat} (h : i + runTo q src i ≤ p) : runTo q (src.take p) i = runTo q src i := by
  unfold runTo at h ⊢
  rw [List.drop_take, takeWhile_take_len]
  omega
theorem wordsA_cases {src : List UInt8} (Pr : Nat → Prop) (hend : ∀ i, src.length = i → Pr i)
    (hstep : ∀ i, i < src.length → (∀ j, i < j → j ≤ src.length → Pr j) → Pr i) : ∀ i, i ≤ src.length → Pr i := by
  have : ∀ k i, src.length - i ≤ k → i ≤ src.length → Pr i := fun k => by
    induction k with
    | zero => intro i h h2; exact hend i (by omega)
    | succ k ih =>
      intro i h h2
      rcases Nat.lt_or_ge i src.length with h3 | h3
      · exact hstep i h3 (fun j h4 h5 => ih j (by omega) h5)
      · exact hend i (by omega)
  exact fun i => this _ i (Nat.le_refl _)
theorem wordsA_next {src : List UInt8} {i : Nat} (h : i < src.length) :
    (src.getD i 0 = 59 ∧ i < i + runTo (· != 10) src i ∧ i + runTo (· != 10) src i ≤ src.length ∧ wordsA src i = wordsA src (i + runTo (· != 10) src i)) ∨
    (src.getD i 0 ≠ 59 ∧ gapB (src.getD i 0) = true ∧ wordsA src i = wordsA src (i + 1)) ∨
    (gapB (src.getD i 0) = false ∧ i < i + runTo (fun c => !gapB c) src i ∧ i + runTo (fun c => !gapB c) src i ≤ src.length ∧ wordsA src i = ((src.drop i).take (runTo (fun c => !gapB c) src i), i) :: wordsA src (i + runTo (fun c => !gapB c) src i)) := by
  cases hg : gapB (src.getD i 0) with
  | false => exact .inr (.inr ⟨rfl, by have := runTo_pos (p := fun c => !gapB c) h (by simpa using hg); omega, runTo_le _ (Nat.le_of_lt h), wordsA_word h hg⟩)
  | true =>
    by_cases h59 : src.getD i 0 = 59
    · exact .inl ⟨h59, by have := runTo_pos (p := (· != 10)) h (by rw [h59]; rfl); omega, runTo_le _ (Nat.le_of_lt h), wordsA_comment h h59⟩
    · exact .inr (.inl ⟨h59, rfl, wordsA_gap h h59 hg⟩)
theorem wordsA_take {src : List UInt8} : ∀ i, i ≤ src.length → ∀ pre post, wordsA src i = pre ++ post → i ≤ (nextW src.length post).2 ∧ (nextW src.length post).2 ≤ src.length ∧ wordsA (src.take (nextW src.length post).2) i = pre := by
  refine wordsA_cases _ (fun i hi pre post h => ?_) (fun i hi ih pre post h => ?_)
  · rw [wordsA_end (by omega)] at h
    obtain ⟨rfl, rfl⟩ := List.append_eq_nil_iff.1 h.symm
    refine ⟨by show i ≤ src.length; omega, Nat.le_refl _, ?_⟩
    exact wordsA_end (by rw [List.length_take]; omega)
  · obtain ⟨p, hp⟩ : ∃ p, p = (nextW src.length post).2 := ⟨_, rfl⟩
    rcases wordsA_next hi with ⟨h1, h2, h3, h4⟩ | ⟨h1, h2, h4⟩ | ⟨h1, h2, h3, h4⟩
    · obtain ⟨k1, k2, k3⟩ := ih _ h2 h3 pre post (by rw [← h4]; exact h)
      refine ⟨by omega, k2, ?_⟩
      rw [← hp] at k1 k2 k3 ⊢
      have hl : (src.take p).length = p := by rw [List.length_take]; omega
      rw [wordsA_comment (src := src.take p) (i := i) (by omega) (by rw [take_getD (by omega)]; exact h1), take_runTo _ k1]
      exact k3
    · obtain ⟨k1, k2, k3⟩ := ih (i + 1) (by omega) (by omega) pre post (by rw [← h4]; exact h)
      refine ⟨by omega, k2, ?_⟩
      rw [← hp] at k1 k2 k3 ⊢
      have hl : (src.take p).length = p := by rw [List.length_take]; omega
      rw [wordsA_gap (src := src.take p) (i := i) (by omega) (by rw [take_getD (by omega)]; exact h1) (by rw [take_getD (by omega)]; exact h2)]
      exact k3
    · rw [h4] at h
      rcases pre with _ | ⟨w, pre⟩
      · rw [List.nil_append] at h
        have hpi : p = i := by rw [hp, ← h]; rfl
        rw [← hp, hpi]
        exact ⟨Nat.le_refl _, by omega, wordsA_end (by rw [List.length_take]; omega)⟩
      · rw [List.cons_append] at h
        injection h with e1 e2
        obtain ⟨k1, k2, k3⟩ := ih _ h2 h3 pre post e2
        refine ⟨by omega, k2, ?_⟩
        rw [← hp] at k1 k2 k3 ⊢
        have hl : (src.take p).length = p := by rw [List.length_take]; omega
        rw [wordsA_word (src := src.take p) (i := i) (by omega) (by rw [take_getD (by omega)]; exact h1), take_runTo _ k1, k3, ← e1]
        congr 2
        rw [List.drop_take, List.take_take, Nat.min_eq_left (by omega)]
/-- the words ahead of a place at which a word begins, or of the end. -/
theorem wordsL_take {src : List UInt8} {pre post : List Wd} (h : wordsL src = pre ++ post) : (nextW src.length post).2 ≤ src.length ∧ wordsL (src.take (nextW src.length post).2) = pre := by
  obtain ⟨_, h2, h3⟩ := wordsA_take (src := src) 0 (Nat.zero_le _) pre post h
  exact ⟨h2, h3⟩
theorem readL_stop {src : List UInt8} {a : Nat} {e : Int} (hs : src.length ≤ 8192) (h : readL src = .bad a e) : a ≤ src.length ∧ ((∃ s' r', readL (src.take a) = .ok s' r') ∨ readL (src.take a) = .bad a 4) := by
  rw [readL_eq hs] at h
  obtain ⟨pre, post, h1, h2, h3⟩ := readW_stop _ _ _ (Nat.lt_succ_self _) h
  obtain ⟨h4, h5⟩ := wordsL_take h1
  rw [← h2] at h4 h5
  refine ⟨h4, ?_⟩
  have hl : (src.take a).length = a := by rw [List.length_take]; omega
  rw [readL_eq (by omega), h5, hl]
  exact h3
def shiftW (d : Nat) (w : Wd) : Wd := (w.1, w.2 + d)
theorem wordsF_shift (d : Nat) : ∀ (f : Nat) (s : List UInt8) (i : Nat), wordsF f s (i + d) = (wordsF f s i).map (shiftW d)
  | 0, _, _ => rfl
  | f + 1, [], _ => rfl
  | f + 1, b :: t, i => by
    rw [wordsF, wordsF]
    by_cases h1 : b = 59
    · rw [if_pos h1, if_pos h1, ← wordsF_shift d f]
      congr 1; omega
    · rw [if_neg h1, if_neg h1]
      by_cases h2 : gapB b = true
      · rw [if_pos h2, if_pos h2, ← wordsF_shift d f]
        congr 1; omega
      · rw [if_neg h2, if_neg h2, List.map_cons, ← wordsF_shift d f]
        show _ :: _ = _ :: _
        congr 2; omega
theorem takeWhile_stop (q : UInt8 → Bool) {c : UInt8} (hq : q c = false) : ∀ l t : List UInt8, (l ++ c :: t).takeWhile q = l.takeWhile q
  | [], t => by rw [List.nil_append, List.takeWhile_cons, hq]; rfl
  | b :: l, t => by
    rw [List.cons_append, List.takeWhile_cons, List.takeWhile_cons, takeWhile_stop q hq l t]
theorem runTo_stop (q : UInt8 → Bool) {a b : List UInt8} {i : Nat} (hq : q 10 = false) (hi : i ≤ a.length) : runTo q (a ++ 10 :: b) i = runTo q a i := by
  unfold runTo
  rw [List.drop_append_of_le_length hi, takeWhile_stop q hq]
theorem wordsA_join {a b : List UInt8} : ∀ i, i ≤ a.length → wordsA (a ++ 10 :: b) i = wordsA a i ++ (wordsL b).map (shiftW (a.length + 1)) := by
  refine wordsA_cases _ (fun i hi => ?_) (fun i hi ih => ?_)
  · subst hi
    have hlt : a.length < (a ++ 10 :: b).length := by simp
    have hg : (a ++ 10 :: b).getD a.length 0 = 10 := by simp [List.getD_eq_getElem?_getD]
    rw [wordsA_gap hlt (by rw [hg]; decide) (by rw [hg]; decide), wordsA_end (Nat.le_refl _), List.nil_append]
    unfold wordsL
    rw [← wordsF_shift, Nat.zero_add]
    unfold wordsA
    have hd : (a ++ 10 :: b).drop (a.length + 1) = b := by simp
    rw [hd]
    exact wordsF_fuel _ _ _ _ (by simp; omega) (by omega)
  · have hlt : i < (a ++ 10 :: b).length := by simp; omega
    have hg : (a ++ 10 :: b).getD i 0 = a.getD i 0 := by
      rw [List.getD_eq_getElem?_getD, List.getD_eq_getElem?_getD, List.getElem?_append_left hi]
    rcases wordsA_next hi with ⟨h1, h2, h3, h4⟩ | ⟨h1, h2, h4⟩ | ⟨h1, h2, h3, h4⟩
    · rw [wordsA_comment hlt (by rw [hg]; exact h1), runTo_stop _ (by rfl) (Nat.le_of_lt hi), h4]
      exact ih _ h2 h3
    · rw [wordsA_gap hlt (by rw [hg]; exact h1) (by rw [hg]; exact h2), h4]
      exact ih _ (by omega) (by omega)
    · rw [wordsA_word hlt (by rw [hg]; exact h1), runTo_stop _ (by rfl) (Nat.le_of_lt hi), h4, ih _ h2 h3, List.cons_append]
      congr 2
      rw [List.drop_append_of_le_length (Nat.le_of_lt hi), List.take_append_of_le_length (by rw [List.length_drop]; omega)]
/-- the words of two texts in a row. -/
theorem wordsL_join (a b : List UInt8) : wordsL (a ++ 10 :: b) = wordsL a ++ (wordsL b).map (shiftW (a.length + 1)) := wordsA_join 0 (Nat.zero_le _)
theorem map_shift (d : Nat) (l : List Wd) : (l.map (shiftW d)).map (·.1) = l.map (·.1) := by
  rw [List.map_map]; rfl
theorem readL_join {a b : List UInt8} {s s2 : AS} {r r2 : List Wd} (hl : a.length + b.length < 8192) (h1 : readL a = .ok s r) (h2 : readL (a ++ 10 :: b) = .ok s2 r2) :
    (∃ l, s2.arrs = s.arrs ++ l) ∧ (∃ l, s2.code = s.code ++ l) ∧ (∃ l, s2.ln = s.ln ++ l) ∧
    ∀ s3 r3, readL b = .ok s3 r3 → s2.code.length = s.code.length + s3.code.length ∧ s2.arrs.length = s.arrs.length + s3.arrs.length ∧ s2.ln.length = s.ln.length + s3.ln.length := by
  rw [readL_eq (by omega)] at h1
  rw [readL_eq (by simp; omega), wordsL_join, readW_app (n2 := (a ++ 10 :: b).length) _ _ _ _ _ _ (Nat.lt_succ_self _) h1] at h2
  obtain ⟨g1, g2, g3⟩ := readW_grew _ _ _ _ _ (Nat.lt_succ_self _) h2
  refine ⟨g1, g2, g3, fun s3 r3 h3 => ?_⟩
  rw [readL_eq (by omega)] at h3
  obtain ⟨x, y, z, q1, q2, q3, q4, q5, q6⟩ := readW_count _ _ _ _ _ _ _ _ _ (Nat.lt_succ_self _) (map_shift _ _) h2 h3
  simp only [AS.start, List.length_nil] at q2 q4 q6
  omega
end Go.Proofs.YtlbhggjkcfcobaaDoor
namespace Go.Proofs.YtlbhggjkcfcobaaDoor
open Go.RowKit Go.Proofs
set_option linter.unusedVariables false

theorem numL_lt {x : List UInt8} {n : Nat} (h : numL x = some n) : n < 4294967296 := by
  have hb : ∀ (o : Option Nat), (o.bind fun n => if n < 4294967296 then some n else none) = some n → n < 4294967296 := fun o h => by
    cases o with
    | none => cases h
    | some m =>
      by_cases hm : m < 4294967296
      · simp [hm] at h; omega
      · simp [hm] at h
  unfold numL at h
  split at h
  · split at h
    · cases h
    · exact hb _ h
  split at h
  · cases h
  split at h
  · cases h
  · exact hb _ h
theorem findL_some {x : List UInt8} {k : Nat} (h : findL x = some k) : k < 36 ∧ (opO k).name = x := by
  unfold findL at h
  have h1 := List.find?_some h
  have h2 := List.mem_of_find?_eq_some h
  exact ⟨List.mem_range.1 h2, by simpa using h1⟩
theorem indexL_ok {l : List (List UInt8)} {x : List UInt8} (h : (indexL l x).2 = 0) : (indexL l x).1 < l.length ∧ nameL x = true ∧ x ∈ l := by
  unfold indexL at h ⊢
  by_cases h1 : nameL x = false
  · rw [if_pos h1] at h; cases h
  rw [if_neg h1] at h ⊢
  by_cases h2 : l.contains x = false
  · rw [if_pos h2] at h; cases h
  rw [if_neg h2]
  have h3 : x ∈ l := by
    have : l.contains x = true := by simpa using h2
    simpa using this
  exact ⟨List.idxOf_lt_length_iff.2 h3, by simpa using h1, h3⟩
def InsOk (a l : Nat) (i : Ins) : Prop := 0 ≤ i.op ∧ i.op < 36 ∧ 0 ≤ i.arg ∧ i.arg < 4294967296 ∧ (i.op = 35 → i.arg < 16) ∧ (i.op = 1 ∨ i.op = 2 → i.arg < l) ∧ (i.op = 3 ∨ i.op = 4 → i.arg < a) ∧ (4 < i.op → i.op ≠ 35 → i.arg = 0)
structure Formed (s : AS) : Prop where
  an : s.an.length = s.arrs.length
  few : s.arrs.length ≤ 8
  sizes : ∀ x ∈ s.arrs, 1 ≤ x.size ∧ x.size ≤ 65536
  cells : s.cells ≤ 65536
  locs : s.ln.length ≤ 16
  code : s.code.length ≤ 1024
  ins : ∀ i ∈ s.code, InsOk s.arrs.length s.ln.length i
  cn : ∀ p ∈ s.cn, p.2 < 4294967296
theorem Formed.start : Formed AS.start := ⟨rfl, by decide, by simp [AS.start], by decide, by decide, by decide, by simp [AS.start], by simp [AS.start]⟩
theorem valueL_lt {s : AS} (hc : ∀ p ∈ s.cn, p.2 < 4294967296) (x : List UInt8) : (valueL s x).1 < 4294967296 := by
  unfold valueL
  cases h : numL x with
  | some n => exact numL_lt h
  | none =>
    dsimp only
    by_cases h1 : nameL x = false
    · rw [if_pos h1]; decide
    · rw [if_neg h1]
      cases h2 : conOf s x with
      | none => decide
      | some n =>
        unfold conOf at h2
        cases h3 : s.cn.find? fun p => decide (p.1 = x) with
        | none => rw [h3] at h2; cases h2
        | some p =>
          rw [h3] at h2
          have h2 : p.2 = n := by simpa using h2
          have := hc p (List.mem_of_find?_eq_some h3)
          show n < _
          omega
theorem InsOk.mono {a l a' l' : Nat} {i : Ins} (h : InsOk a l i) (ha : a ≤ a') (hl : l ≤ l') : InsOk a' l' i := by
  obtain ⟨h1, h2, h3, h4, h5, h6, h7, h8⟩ := h
  exact ⟨h1, h2, h3, h4, h5, fun h => by have := h6 h; omega, fun h => by have := h7 h; omega, h8⟩
theorem arrayL_formed {n : Nat} {b : Bool} {s s' : AS} {r r' : List Wd} (hF : Formed s) (h : arrayL n b s r = .ok s' r') : Formed s' := by
  obtain ⟨x, y, t, rfl, rfl, q1, q2, q3, q4, q5, rfl⟩ := arrayL_ok h
  have hsz : ∀ l : List Arr, (∀ x ∈ l, 1 ≤ x.size ∧ x.size ≤ 65536) → 0 ≤ (l.map (·.size)).sum := fun l => by
    induction l with
    | nil => intro _; exact Int.le_refl _
    | cons z l ih => intro hl; rw [List.map_cons, List.sum_cons]; have := hl z (by simp); have := ih (fun x hx => hl x (by simp [hx])); omega
  have h0 : 0 ≤ s.cells := hsz _ hF.sizes
  refine ⟨?_, ?_, ?_, ?_, hF.locs, hF.code, ?_, hF.cn⟩
  · simp [hF.an]
  · have := hF.an; simp; omega
  · intro z hz
    rcases List.mem_append.1 hz with hz | hz
    · exact hF.sizes z hz
    · rw [List.mem_singleton.1 hz]
      exact ⟨by show (1 : Int) ≤ ((valueL s y.1).1 : Int); omega, by show ((valueL s y.1).1 : Int) ≤ 65536; omega⟩
  · show ((s.arrs ++ [(⟨b, (valueL s y.1).1⟩ : Arr)]).map (fun x : Arr => x.size)).sum ≤ 65536
    rw [List.map_append, List.sum_append]
    show s.cells + (((valueL s y.1).1 : Int) + 0) ≤ 65536
    omega
  · intro i hi
    exact (hF.ins i hi).mono (by simp) (Nat.le_refl _)
theorem argL_ok {s : AS} (hF : Formed s) {op : Nat} (ho : op ≤ 4 ∨ op = 35) {x : List UInt8} (h : (argL s op x).2 = 0) : InsOk s.arrs.length s.ln.length ⟨op, (argL s op x).1⟩ := by
  have hv := valueL_lt hF.cn x
  unfold argL at h ⊢
  by_cases h0 : op = 0
  · rw [if_pos h0] at h ⊢
    subst h0
    exact ⟨by dsimp only; omega, by dsimp only; omega, by dsimp only; omega, by dsimp only; omega, fun h => by dsimp only at h; omega, fun h => by dsimp only at h; omega, fun h => by dsimp only at h; omega, fun h => by dsimp only at h; omega⟩
  rw [if_neg h0] at h ⊢
  by_cases h1 : op = 35
  · rw [if_pos h1] at h ⊢
    subst h1
    have h16 : (valueL s x).1 < 16 := by
      by_cases h2 : (valueL s x).2 ≠ 0
      · dsimp only at h; rw [if_pos h2] at h; exact absurd h h2
      · dsimp only at h; rw [if_neg h2] at h
        by_cases h3 : 16 ≤ (valueL s x).1
        · rw [if_pos h3] at h; cases h
        · omega
    exact ⟨by dsimp only; omega, by dsimp only; omega, by dsimp only; omega, by dsimp only; omega, fun _ => by dsimp only; omega, fun h => by dsimp only at h; omega, fun h => by dsimp only at h; omega, fun _ h => absurd rfl h⟩
  rw [if_neg h1] at h ⊢
  have hl := hF.locs
  have ha := hF.few
  by_cases h2 : op = 1 ∨ op = 2
  · rw [if_pos h2] at h ⊢
    have hi := (indexL_ok h).1
    exact ⟨by dsimp only; omega, by dsimp only; omega, by dsimp only; omega, by dsimp only; omega, fun h => by dsimp only at h; omega, fun _ => by dsimp only; omega, fun h => by dsimp only at h; omega, fun h => by dsimp only at h; omega⟩
  · rw [if_neg h2] at h ⊢
    have hi := (indexL_ok h).1
    rw [hF.an] at hi
    exact ⟨by dsimp only; omega, by dsimp only; omega, by dsimp only; omega, by dsimp only; omega, fun h => by dsimp only at h; omega, fun h => by dsimp only at h; omega, fun _ => by dsimp only; omega, fun h => by dsimp only at h; omega⟩
theorem stepL_formed {n : Nat} {w : Wd} {s s' : AS} {r r' : List Wd} (hF : Formed s) (h : stepL n w s r = .ok s' r') : Formed s' := by
  unfold stepL at h
  split at h
  · exact arrayL_formed hF h
  split at h
  · exact arrayL_formed hF h
  split at h
  · obtain ⟨x, t, rfl, rfl, q1, q2, rfl⟩ := localL_ok h
    refine ⟨hF.an, hF.few, hF.sizes, hF.cells, ?_, hF.code, ?_, hF.cn⟩
    · simp; omega
    · intro i hi
      exact (hF.ins i hi).mono (Nat.le_refl _) (by simp)
  split at h
  · obtain ⟨x, y, t, rfl, rfl, q1, q3, rfl⟩ := constL_ok h
    refine ⟨hF.an, hF.few, hF.sizes, hF.cells, hF.locs, hF.code, hF.ins, ?_⟩
    intro p hp
    rcases List.mem_append.1 hp with hp | hp
    · exact hF.cn p hp
    · rw [List.mem_singleton.1 hp]; exact valueL_lt hF.cn _
  · obtain ⟨op, hf, hc, ⟨ho, x, t, rfl, rfl, q1, rfl⟩ | ⟨ho, rfl, rfl⟩⟩ := instrL_ok h
    · refine ⟨hF.an, hF.few, hF.sizes, hF.cells, hF.locs, by simp; omega, ?_, hF.cn⟩
      intro i hi
      rcases List.mem_append.1 hi with hi | hi
      · exact hF.ins i hi
      · rw [List.mem_singleton.1 hi]; exact argL_ok hF ho q1
    · refine ⟨hF.an, hF.few, hF.sizes, hF.cells, hF.locs, by simp; omega, ?_, hF.cn⟩
      intro i hi
      rcases List.mem_append.1 hi with hi | hi
      · exact hF.ins i hi
      · rw [List.mem_singleton.1 hi]
        have := (findL_some hf).1
        exact ⟨by dsimp only; omega, by dsimp only; omega, Int.le_refl _, by dsimp only; omega, fun h => by dsimp only at h; omega, fun h => by dsimp only at h; omega, fun h => by dsimp only at h; omega, fun _ _ => rfl⟩
theorem readW_formed {n : Nat} : ∀ (f : Nat) (ws : List Wd) (s s' : AS) (r : List Wd), ws.length < f → Formed s → readW n s ws = .ok s' r → Formed s'
  | 0, _, _, _, _, h, _, _ => by omega
  | f + 1, [], s, s', r, _, hF, h => by
    rw [readW_nil] at h; injection h with h _; rw [← h]; exact hF
  | f + 1, w :: t, s, s', r, hf, hF, h => by
    cases hs : stepL n w s t with
    | bad a e => rw [readW_bad hs] at h; cases h
    | ok s1 r1 =>
      rw [readW_ok hs] at h
      obtain ⟨hr1, hwl, _⟩ := stepL_grew hs
      have hl : r1.length ≤ t.length := by rw [hr1, List.length_drop]; omega
      exact readW_formed f r1 s1 s' r (by simp at hf; omega) (stepL_formed hF hs) h
theorem readL_formed {src : List UInt8} {s : AS} {r : List Wd} (h : readL src = .ok s r) : Formed s := by
  unfold readL at h
  split at h
  · cases h
  · exact readW_formed _ _ _ _ _ (Nat.lt_succ_self _) Formed.start h
/-- the program that was read. -/
def prgOf (s : AS) : Prg := ⟨s.arrs, (s.ln.length : Int), s.code⟩
theorem sumA_cells : ∀ l : List Arr, sumA l = (l.map (·.size)).sum
  | [] => rfl
  | x :: l => by rw [sumA, List.map_cons, List.sum_cons, sumA_cells l]
theorem InsOk.chk {a l : Nat} {i : Ins} (h : InsOk a l i) (ha : a ≤ 8) (hl : l ≤ 16) : chkE i = 0 := by
  obtain ⟨op, arg⟩ := i
  obtain ⟨h1, h2, h3, h4, h5, h6, h7, h8⟩ := h
  dsimp only at h1 h2 h3 h4 h5 h6 h7 h8
  obtain ⟨k, rfl⟩ : ∃ k : Nat, op = (k : Int) := ⟨op.toNat, by omega⟩
  rw [chk_in (by omega), if_neg]
  have hlim : (opO k).limit = if k = 0 then 4294967296 else if k = 1 ∨ k = 2 ∨ k = 35 then 16 else if k = 3 ∨ k = 4 then 8 else 1 := lim_tab ⟨k, by omega⟩
  rw [hlim]
  by_cases e0 : k = 0
  · rw [if_pos e0]; omega
  rw [if_neg e0]
  by_cases e1 : k = 1 ∨ k = 2 ∨ k = 35
  · rw [if_pos e1]
    rcases e1 with e | e | e
    · have := h6 (by omega); omega
    · have := h6 (by omega); omega
    · have := h5 (by omega); omega
  rw [if_neg e1]
  by_cases e2 : k = 3 ∨ k = 4
  · rw [if_pos e2]; have := h7 (by omega); omega
  · rw [if_neg e2]; have := h8 (by omega) (by omega); omega
theorem codeE_zero : ∀ {l : List Ins}, (∀ i ∈ l, chkE i = 0) → codeE l = 0
  | [], _ => rfl
  | i :: l, h => by
    rw [codeE_step, if_neg (by rw [h i (by simp)]; decide)]
    exact codeE_zero (fun x hx => h x (by simp [hx]))
theorem Formed.form {s : AS} (h : Formed s) : formE (prgOf s) = 0 := by
  have h1 : arrE s.arrs = 0 := by
    unfold arrE
    rw [if_neg (by have := h.few; omega), arrGo_sum _ _ (by omega) (fun x hx => (h.sizes x hx).1), if_neg]
    rw [sumA_cells]
    have := h.cells
    show ¬ 65536 < s.cells
    omega
  unfold formE prgOf
  dsimp only
  rw [if_neg (by rw [h1]; decide), if_neg (by have := h.locs; omega), if_neg (by have := h.code; omega)]
  exact codeE_zero (fun i hi => (h.ins i hi).chk h.few h.locs)
end Go.Proofs.YtlbhggjkcfcobaaDoor
