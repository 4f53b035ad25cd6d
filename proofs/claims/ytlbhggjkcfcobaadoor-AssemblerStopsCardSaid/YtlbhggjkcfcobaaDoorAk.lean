/- The plain assembler: what reading depends on; two texts in a row; the text ahead of an error. No program in sight. -/
import Derived.Test.YtlbhggjkcfcobaaDoorAj
namespace Go.Proofs.YtlbhggjkcfcobaaDoor
open Go.RowKit Go.Proofs
set_option linter.unusedVariables false

def AR.strip : AR → Option Int × Option (AS × List (List UInt8))
  | .bad _ e => (some e, none)
  | .ok s r => (none, some (s, r.map (·.1)))
theorem strip_bad (a : Nat) (e : Int) : (AR.bad a e).strip = (some e, none) := rfl
theorem strip_ok (s : AS) (r : List Wd) : (AR.ok s r).strip = (none, some (s, r.map (·.1))) := rfl
theorem strip_ite (c : Prop) [Decidable c] (a b : AR) : (if c then a else b).strip = if c then a.strip else b.strip := by split <;> rfl
theorem nextW_fst (n : Nat) (r : List Wd) : (nextW n r).1 = (r.map (·.1)).headD [] := by cases r <;> rfl
theorem map_tail' (r : List Wd) : r.tail.map (·.1) = (r.map (·.1)).tail := by cases r <;> rfl
theorem stepL_strip {n n2 : Nat} {w w2 : Wd} {s : AS} {r r2 : List Wd} (hw : w.1 = w2.1) (hr : r.map (·.1) = r2.map (·.1)) : (stepL n w s r).strip = (stepL n2 w2 s r2).strip := by
  have h1 : (nextW n r).1 = (nextW n2 r2).1 := by rw [nextW_fst, nextW_fst, hr]
  have h2 : (nextW n r.tail).1 = (nextW n2 r2.tail).1 := by rw [nextW_fst, nextW_fst, map_tail', map_tail', hr]
  have t1 : r.tail.map (·.1) = r2.tail.map (·.1) := by rw [map_tail', map_tail', hr]
  have t2 : r.tail.tail.map (·.1) = r2.tail.tail.map (·.1) := by rw [map_tail', t1, ← map_tail']
  have ha : ∀ b, (arrayL n b s r).strip = (arrayL n2 b s r2).strip := fun b => by
    unfold arrayL
    dsimp only
    rw [← h1, ← h2]
    simp only [strip_ite, strip_bad, strip_ok, t2]
  have hl : (localL n s r).strip = (localL n2 s r2).strip := by
    unfold localL
    dsimp only
    rw [← h1]
    simp only [strip_ite, strip_bad, strip_ok, t1]
  have hc : (constL n s r).strip = (constL n2 s r2).strip := by
    unfold constL
    dsimp only
    rw [← h1, ← h2]
    simp only [strip_ite, strip_bad, strip_ok, t2]
  have hi : (instrL n w s r).strip = (instrL n2 w2 s r2).strip := by
    rw [instrL_eq, instrL_eq, ← hw]
    cases findL w.1 with
    | none => rfl
    | some op =>
      dsimp only
      rw [← h1]
      simp only [strip_ite, strip_bad, strip_ok, t1, hr]
  unfold stepL
  rw [← hw]
  simp only [strip_ite, ha, hl, hc, hi]
theorem readW_strip {n n2 : Nat} : ∀ (f : Nat) (s : AS) (ws ws2 : List Wd), ws.length < f → ws.map (·.1) = ws2.map (·.1) → (readW n s ws).strip = (readW n2 s ws2).strip
  | 0, _, _, _, h, _ => by omega
  | f + 1, s, [], ws2, _, he => by
    cases ws2 with
    | nil => rfl
    | cons x t => simp at he
  | f + 1, s, w :: r, [], _, he => by simp at he
  | f + 1, s, w :: r, w2 :: r2, hf, he => by
    rw [List.map_cons, List.map_cons] at he
    injection he with hw hr
    have hs := stepL_strip (n := n) (n2 := n2) (s := s) hw hr
    cases h1 : stepL n w s r with
    | bad a e =>
      rw [h1] at hs
      cases h2 : stepL n2 w2 s r2 with
      | bad a2 e2 =>
        rw [h2] at hs
        rw [readW_bad h1, readW_bad h2]
        exact hs
      | ok s2 r2' => rw [h2] at hs; simp [AR.strip] at hs
    | ok s1 r1 =>
      rw [h1] at hs
      cases h2 : stepL n2 w2 s r2 with
      | bad a2 e2 => rw [h2] at hs; simp [AR.strip] at hs
      | ok s2 r2' =>
        rw [h2] at hs
        simp only [AR.strip, Prod.mk.injEq, true_and, Option.some.injEq] at hs
        rw [readW_ok h1, readW_ok h2, ← hs.1]
        have := (stepL_grew h1).1
        have hl : r1.length ≤ r.length := by rw [this, List.length_drop]; omega
        exact readW_strip f s1 r1 r2' (by simp at hf; omega) hs.2
theorem take_two {r2 : List Wd} {a b : List UInt8} (h : (r2.take 2).map (·.1) = [a, b]) : ∃ x y t, r2 = x :: y :: t ∧ x.1 = a ∧ y.1 = b := by
  rcases r2 with _ | ⟨x, _ | ⟨y, t⟩⟩
  · simp at h
  · simp at h
  · simp at h; exact ⟨x, y, t, rfl, h.1, h.2⟩
theorem take_one {r2 : List Wd} {a : List UInt8} (h : (r2.take 1).map (·.1) = [a]) : ∃ x t, r2 = x :: t ∧ x.1 = a := by
  rcases r2 with _ | ⟨x, t⟩
  · simp at h
  · simp at h; exact ⟨x, t, rfl, h⟩
/-- a step that succeeds looks at the words of its item alone. -/
theorem stepL_cong {n n2 : Nat} {w w2 : Wd} {s s' : AS} {r r' r2 : List Wd} (h : stepL n w s r = .ok s' r') (hw : w2.1 = w.1) (hr : (r2.take (widthL w.1)).map (·.1) = (r.take (widthL w.1)).map (·.1)) :
    stepL n2 w2 s r2 = .ok s' (r2.drop (widthL w.1)) := by
  have hg := stepL_grew h
  have hs := stepL_strip (n := n) (n2 := n) (w := w) (w2 := w) (s := s) (r := r.take (widthL w.1)) (r2 := r.take (widthL w.1)) rfl rfl
  unfold stepL at h ⊢
  rw [hw]
  by_cases h1 : w.1 = [98, 121, 116, 101, 115]
  · rw [if_pos h1] at h ⊢
    obtain ⟨x, y, t, rfl, rfl, q1, q2, q3, q4, q5, rfl⟩ := arrayL_ok h
    rw [h1] at hr ⊢
    obtain ⟨x2, y2, t2, rfl, e1, e2⟩ := take_two (r2 := r2) (a := x.1) (b := y.1) hr
    show arrayL n2 false s (x2 :: y2 :: t2) = .ok _ t2
    unfold arrayL
    simp only [nextW, List.tail_cons, e1, e2]
    rw [if_neg (by simp [q1]), if_neg (by omega), if_neg (by simp [q3]), if_neg (by omega)]
  rw [if_neg h1] at h ⊢
  by_cases h2 : w.1 = [119, 111, 114, 100, 115]
  · rw [if_pos h2] at h ⊢
    obtain ⟨x, y, t, rfl, rfl, q1, q2, q3, q4, q5, rfl⟩ := arrayL_ok h
    rw [h2] at hr ⊢
    obtain ⟨x2, y2, t2, rfl, e1, e2⟩ := take_two (r2 := r2) (a := x.1) (b := y.1) hr
    show arrayL n2 true s (x2 :: y2 :: t2) = .ok _ t2
    unfold arrayL
    simp only [nextW, List.tail_cons, e1, e2]
    rw [if_neg (by simp [q1]), if_neg (by omega), if_neg (by simp [q3]), if_neg (by omega)]
  rw [if_neg h2] at h ⊢
  by_cases h3 : w.1 = [108, 111, 99, 97, 108]
  · rw [if_pos h3] at h ⊢
    obtain ⟨x, t, rfl, rfl, q1, q2, rfl⟩ := localL_ok h
    rw [h3] at hr ⊢
    obtain ⟨x2, t2, rfl, e1⟩ := take_one (r2 := r2) (a := x.1) hr
    show localL n2 s (x2 :: t2) = .ok _ t2
    unfold localL
    simp only [nextW, List.tail_cons, e1]
    rw [if_neg (by simp [q1]), if_neg (by omega)]
  rw [if_neg h3] at h ⊢
  by_cases h4 : w.1 = [99, 111, 110, 115, 116]
  · rw [if_pos h4] at h ⊢
    obtain ⟨x, y, t, rfl, rfl, q1, q3, rfl⟩ := constL_ok h
    rw [h4] at hr ⊢
    obtain ⟨x2, y2, t2, rfl, e1, e2⟩ := take_two (r2 := r2) (a := x.1) (b := y.1) hr
    show constL n2 s (x2 :: y2 :: t2) = .ok _ t2
    unfold constL
    simp only [nextW, List.tail_cons, e1, e2]
    rw [if_neg (by simp [q1]), if_neg (by simp [q3])]
  rw [if_neg h4] at h ⊢
  rw [instrL_eq, hw]
  obtain ⟨op, hf, hc, ⟨ho, x, t, rfl, rfl, q1, rfl⟩ | ⟨ho, rfl, rfl⟩⟩ := instrL_ok h
  · have hwd : widthL w.1 = 1 := by unfold widthL; rw [if_neg h1, if_neg h2, if_neg h3, if_neg h4, hf]; exact if_pos ho
    rw [hwd] at hr ⊢
    obtain ⟨x2, t2, rfl, e1⟩ := take_one (r2 := r2) (a := x.1) hr
    rw [hf]
    simp only [nextW, List.tail_cons, e1]
    rw [if_neg (by omega), if_pos ho, if_neg (by simp [q1])]
    rfl
  · have hwd : widthL w.1 = 0 := by unfold widthL; rw [if_neg h1, if_neg h2, if_neg h3, if_neg h4, hf]; exact if_neg ho
    rw [hwd, hf]
    simp only [List.drop_zero]
    rw [if_neg (by omega), if_neg ho]
/-- a text that is read whole, and more words behind it. -/
theorem readW_app {n n2 : Nat} : ∀ (f : Nat) (ws : List Wd) (s s' : AS) (r x : List Wd), ws.length < f → readW n s ws = .ok s' r → readW n2 s (ws ++ x) = readW n2 s' x
  | 0, _, _, _, _, _, h, _ => by omega
  | f + 1, [], s, s', r, x, _, h => by
    rw [readW_nil] at h; injection h with h _; rw [← h]; rfl
  | f + 1, w :: t, s, s', r, x, hf, h => by
    cases hs : stepL n w s t with
    | bad a e => rw [readW_bad hs] at h; cases h
    | ok s1 r1 =>
      rw [readW_ok hs] at h
      obtain ⟨hr1, hwl, _⟩ := stepL_grew hs
      have hl : r1.length ≤ t.length := by rw [hr1, List.length_drop]; omega
      have hc := stepL_cong (n2 := n2) (w2 := w) (r2 := t ++ x) hs rfl (by rw [List.take_append_of_le_length hwl])
      rw [List.cons_append, readW_ok hc, List.drop_append_of_le_length hwl, ← hr1]
      exact readW_app f r1 s1 s' r x (by simp at hf; omega) h
theorem Grew.step {s s' : AS} {x : List UInt8} (h : Grew s s' x) : (∃ l, s'.arrs = s.arrs ++ l) ∧ (∃ l, s'.code = s.code ++ l) ∧ (∃ l, s'.ln = s.ln ++ l) :=
  ⟨h.arrs.imp fun _ h => h.1, h.code.imp fun _ h => h.1, h.ln.imp fun _ h => h.1⟩
theorem readW_grew {n : Nat} : ∀ (f : Nat) (ws : List Wd) (s s' : AS) (r : List Wd), ws.length < f → readW n s ws = .ok s' r → (∃ l, s'.arrs = s.arrs ++ l) ∧ (∃ l, s'.code = s.code ++ l) ∧ (∃ l, s'.ln = s.ln ++ l)
  | 0, _, _, _, _, h, _ => by omega
  | f + 1, [], s, s', r, _, h => by
    rw [readW_nil] at h; injection h with h _; rw [← h]
    exact ⟨⟨[], by simp⟩, ⟨[], by simp⟩, ⟨[], by simp⟩⟩
  | f + 1, w :: t, s, s', r, hf, h => by
    cases hs : stepL n w s t with
    | bad a e => rw [readW_bad hs] at h; cases h
    | ok s1 r1 =>
      rw [readW_ok hs] at h
      obtain ⟨hr1, hwl, hg⟩ := stepL_grew hs
      have hl : r1.length ≤ t.length := by rw [hr1, List.length_drop]; omega
      obtain ⟨⟨a1, i1⟩, ⟨a2, i2⟩, ⟨a3, i3⟩⟩ := readW_grew f r1 s1 s' r (by simp at hf; omega) h
      obtain ⟨⟨b1, j1⟩, ⟨b2, j2⟩, ⟨b3, j3⟩⟩ := hg.step
      exact ⟨⟨b1 ++ a1, by rw [i1, j1, List.append_assoc]⟩, ⟨b2 ++ a2, by rw [i2, j2, List.append_assoc]⟩, ⟨b3 ++ a3, by rw [i3, j3, List.append_assoc]⟩⟩
/-- the same words, read twice: each time as much is declared and held. -/
theorem readW_count {n n2 : Nat} : ∀ (f : Nat) (ws ws2 : List Wd) (s s' s2 s2' : AS) (r r2 : List Wd), ws.length < f → ws.map (·.1) = ws2.map (·.1) → readW n s ws = .ok s' r → readW n2 s2 ws2 = .ok s2' r2 →
    ∃ a l c, s'.arrs.length = s.arrs.length + a ∧ s2'.arrs.length = s2.arrs.length + a ∧ s'.ln.length = s.ln.length + l ∧ s2'.ln.length = s2.ln.length + l ∧ s'.code.length = s.code.length + c ∧ s2'.code.length = s2.code.length + c
  | 0, _, _, _, _, _, _, _, _, h, _, _, _ => by omega
  | f + 1, [], ws2, s, s', s2, s2', r, r2, _, he, h, h2 => by
    have : ws2 = [] := by cases ws2 with | nil => rfl | cons x t => simp at he
    subst this
    rw [readW_nil] at h h2
    injection h with h _; injection h2 with h2 _
    subst h h2
    exact ⟨0, 0, 0, rfl, rfl, rfl, rfl, rfl, rfl⟩
  | f + 1, w :: t, [], s, s', s2, s2', r, r2, _, he, _, _ => by simp at he
  | f + 1, w :: t, w2 :: t2, s, s', s2, s2', r, r2, hf, he, h, h2 => by
    rw [List.map_cons, List.map_cons] at he
    injection he with hw hr
    cases hs : stepL n w s t with
    | bad a e => rw [readW_bad hs] at h; cases h
    | ok s1 r1 =>
      cases hs2 : stepL n2 w2 s2 t2 with
      | bad a e => rw [readW_bad hs2] at h2; cases h2
      | ok s3 r3 =>
        rw [readW_ok hs] at h
        rw [readW_ok hs2] at h2
        obtain ⟨hr1, hwl, hg⟩ := stepL_grew hs
        obtain ⟨hr3, hwl2, hg2⟩ := stepL_grew hs2
        have hl : r1.length ≤ t.length := by rw [hr1, List.length_drop]; omega
        have hm : r1.map (·.1) = r3.map (·.1) := by rw [hr1, hr3, List.map_drop, List.map_drop, hr, hw]
        obtain ⟨a, l, c, q1, q2, q3, q4, q5, q6⟩ := readW_count f r1 r3 s1 s' s3 s2' r r2 (by simp at hf; omega) hm h h2
        rw [← hw] at hg2
        obtain ⟨a1, i1, k1⟩ := hg.arrs
        obtain ⟨a2, i2, k2⟩ := hg.ln
        obtain ⟨a3, i3, k3⟩ := hg.code
        obtain ⟨b1, j1, m1⟩ := hg2.arrs
        obtain ⟨b2, j2, m2⟩ := hg2.ln
        obtain ⟨b3, j3, m3⟩ := hg2.code
        rw [i1, List.length_append, k1] at q1
        rw [j1, List.length_append, m1] at q2
        rw [i2, List.length_append, k2] at q3
        rw [j2, List.length_append, m2] at q4
        rw [i3, List.length_append, k3] at q5
        rw [j3, List.length_append, m3] at q6
        exact ⟨(kindL w.1).1 + a, (kindL w.1).2.1 + l, (kindL w.1).2.2 + c, by omega, by omega, by omega, by omega, by omega, by omega⟩
/-- where an error is, and what is read ahead of it. -/
theorem stepL_bad {n : Nat} {w : Wd} {s : AS} {r : List Wd} {a : Nat} {e : Int} (h : stepL n w s r = .bad a e) :
    a = w.2 ∨ (a = (nextW n r).2 ∧ ∀ a', stepL a' w s [] = .bad a' 4) ∨ (∃ x t, r = x :: t ∧ a = (nextW n t).2 ∧ ∀ a', stepL a' w s [x] = .bad a' 4) := by
  have harr : ∀ b, arrayL n b s r = .bad a e → (a = (nextW n r).2 ∧ ∀ a', arrayL a' b s [] = .bad a' 4) ∨ (∃ x t, r = x :: t ∧ a = (nextW n t).2 ∧ ∀ a', arrayL a' b s [x] = .bad a' 4) := fun b h => by
    have h0 : ∀ a', arrayL a' b s [] = .bad a' 4 := fun a' => rfl
    unfold arrayL at h
    dsimp only at h
    by_cases h1 : freshE s (nextW n r).1 = 0
    · rw [if_neg (by simp [h1])] at h
      rcases r with _ | ⟨x, t⟩
      · exact absurd h1 (fresh_end s n)
      by_cases h2 : 8 ≤ s.an.length
      · rw [if_pos h2] at h
        injection h with e1 e2
        exact .inl ⟨e1.symm, h0⟩
      · rw [if_neg h2] at h
        have h3 : a = (nextW n t).2 := by
          rw [List.tail_cons] at h
          split at h
          · injection h with e1 e2; exact e1.symm
          split at h
          · injection h with e1 e2; exact e1.symm
          · cases h
        refine .inr ⟨x, t, rfl, h3, fun a' => ?_⟩
        have h1' : freshE s x.1 = 0 := h1
        have h5 : (valueL s (nextW a' (List.tail [x])).1).2 ≠ 0 := by show ¬ (4 : Int) = 0; decide
        show (if freshE s x.1 ≠ 0 then _ else if 8 ≤ s.an.length then _ else if (valueL s (nextW a' (List.tail [x])).1).2 ≠ 0 then AR.bad a' 4 else _) = _
        rw [if_neg (by simp [h1']), if_neg h2, if_pos h5]
    · rw [if_pos h1] at h
      injection h with e1 e2
      exact .inl ⟨e1.symm, h0⟩
  unfold stepL at h ⊢
  by_cases h1 : w.1 = [98, 121, 116, 101, 115]
  · simp only [if_pos h1] at h ⊢
    exact .inr (harr _ h)
  simp only [if_neg h1] at h ⊢
  by_cases h2 : w.1 = [119, 111, 114, 100, 115]
  · simp only [if_pos h2] at h ⊢
    exact .inr (harr _ h)
  simp only [if_neg h2] at h ⊢
  by_cases h3 : w.1 = [108, 111, 99, 97, 108]
  · simp only [if_pos h3] at h ⊢
    refine .inr (.inl ⟨?_, fun a' => rfl⟩)
    unfold localL at h
    dsimp only at h
    split at h
    · injection h with e1 e2; exact e1.symm
    split at h
    · injection h with e1 e2; exact e1.symm
    · cases h
  simp only [if_neg h3] at h ⊢
  by_cases h4 : w.1 = [99, 111, 110, 115, 116]
  · simp only [if_pos h4] at h ⊢
    unfold constL at h
    dsimp only at h
    by_cases h5 : freshE s (nextW n r).1 = 0
    · rw [if_neg (by simp [h5])] at h
      rcases r with _ | ⟨x, t⟩
      · exact absurd h5 (fresh_end s n)
      refine .inr (.inr ⟨x, t, rfl, ?_, fun a' => ?_⟩)
      · rw [List.tail_cons] at h
        split at h
        · injection h with e1 e2; exact e1.symm
        · cases h
      · have h1' : freshE s x.1 = 0 := h5
        have h5 : (valueL s (nextW a' (List.tail [x])).1).2 ≠ 0 := by show ¬ (4 : Int) = 0; decide
        show (if freshE s x.1 ≠ 0 then _ else if (valueL s (nextW a' (List.tail [x])).1).2 ≠ 0 then AR.bad a' 4 else _) = _
        rw [if_neg (by simp [h1']), if_pos h5]
    · rw [if_pos h5] at h
      injection h with e1 e2
      exact .inr (.inl ⟨e1.symm, fun a' => rfl⟩)
  simp only [if_neg h4] at h ⊢
  rw [instrL_eq] at h
  simp only [instrL_eq]
  cases hf : findL w.1 with
  | none =>
    rw [hf] at h
    injection h with e1 e2
    exact .inl e1.symm
  | some op =>
    rw [hf] at h
    dsimp only at h ⊢
    by_cases h5 : 1024 ≤ s.code.length
    · rw [if_pos h5] at h
      injection h with e1 e2
      exact .inl e1.symm
    rw [if_neg h5] at h
    by_cases h6 : op ≤ 4 ∨ op = 35
    · rw [if_pos h6] at h
      have ha : a = (nextW n r).2 := by
        split at h
        · injection h with e1 e2; exact e1.symm
        · cases h
      refine .inr (.inl ⟨ha, fun a' => ?_⟩)
      rw [if_neg h5, if_pos h6]
      have h7 : (argL s op (nextW a' []).1).2 = 4 := argL_nil s op
      rw [if_pos (by rw [h7]; decide), h7]
      rfl
    · rw [if_neg h6] at h; cases h
theorem readW_stop {n : Nat} {a : Nat} {e : Int} : ∀ (f : Nat) (ws : List Wd) (s : AS), ws.length < f → readW n s ws = .bad a e →
    ∃ pre post, ws = pre ++ post ∧ a = (nextW n post).2 ∧ ((∃ s' r', readW a s pre = .ok s' r') ∨ readW a s pre = .bad a 4)
  | 0, _, _, h, _ => by omega
  | f + 1, [], s, _, h => by rw [readW_nil] at h; cases h
  | f + 1, w :: r, s, hf, h => by
    cases hs : stepL n w s r with
    | ok s1 r1 =>
      rw [readW_ok hs] at h
      obtain ⟨hr1, hwl, _⟩ := stepL_grew hs
      have hl : r1.length ≤ r.length := by rw [hr1, List.length_drop]; omega
      obtain ⟨pre, post, h1, h2, h3⟩ := readW_stop f r1 s1 (by simp at hf; omega) h
      have hc := stepL_cong (n2 := a) (w2 := w) (r2 := r.take (widthL w.1) ++ pre) hs rfl (by rw [List.take_append_of_le_length (by rw [List.length_take]; omega), List.take_take, Nat.min_self])
      have hd : (r.take (widthL w.1) ++ pre).drop (widthL w.1) = pre := by
        rw [List.drop_append_of_le_length (by rw [List.length_take]; omega), List.drop_take, Nat.sub_self, List.take_zero, List.nil_append]
      rw [hd] at hc
      refine ⟨w :: (r.take (widthL w.1) ++ pre), post, ?_, h2, ?_⟩
      · rw [List.cons_append, List.append_assoc, ← h1, hr1, List.take_append_drop]
      · rw [readW_ok hc]; exact h3
    | bad a1 e1 =>
      rw [readW_bad hs] at h
      injection h with h1 h2
      subst h1
      rcases stepL_bad hs with h3 | ⟨h3, h4⟩ | ⟨x, t, rfl, h3, h4⟩
      · exact ⟨[], w :: r, rfl, h3, .inl ⟨s, [], readW_nil _ _⟩⟩
      · exact ⟨[w], r, rfl, h3, .inr (readW_bad (h4 _))⟩
      · exact ⟨[w, x], t, rfl, h3, .inr (readW_bad (h4 _))⟩
end Go.Proofs.YtlbhggjkcfcobaaDoor
