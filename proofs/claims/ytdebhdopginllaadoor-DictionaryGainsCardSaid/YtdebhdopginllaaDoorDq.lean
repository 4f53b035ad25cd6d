/- The learned list, plainly: the selection of the reference is the beginning of the sorted list. No program in sight. -/
import Derived.Test.YtdebhdopginllaaDoorDp
namespace Go.Proofs.YtdebhdopginllaaDoor
open Go.RowKit Go.Proofs
set_option linter.unusedVariables false

theorem cntS_count (ss : List (List UInt8)) (s : List UInt8) : ∀ k, k ≤ ss.length → cntS ss s k = (ss.take k).count s
  | 0, _ => by simp [cntS]
  | k + 1, h => by
    rw [cntS, cntS_count ss s k (by omega), List.take_succ_eq_append_getElem (by omega), List.count_append, gs_get (by omega)]
    simp [List.count_cons]
def gainS (ws : List (List UInt8)) (s : List UInt8) : Int := gainL (ws.count s) s.length
theorem gainS_cnt (ws : List (List UInt8)) (s : List UInt8) : gainL (cntS ws s ws.length) s.length = gainS ws s := by
  unfold gainS; rw [cntS_count _ _ _ (Nat.le_refl _), List.take_length]
def candP (ws : List (List UInt8)) (s : List UInt8) : Prop := isWordB s = true ∧ 0 < gainS ws s
/-- x comes ahead of y. -/
def ahead (ws : List (List UInt8)) (x y : List UInt8) : Prop := gainS ws y < gainS ws x ∨ (gainS ws x = gainS ws y ∧ x < y)
theorem ahead_irrefl {ws : List (List UInt8)} {x : List UInt8} : ¬ ahead ws x x := by
  rintro (h | ⟨_, h⟩)
  · omega
  · exact List.lt_irrefl _ h
theorem ahead_trans {ws : List (List UInt8)} {x y z : List UInt8} (h : ahead ws x y) (h' : ahead ws y z) : ahead ws x z := by
  rcases h with h | ⟨e, h⟩ <;> rcases h' with h' | ⟨e', h'⟩
  · left; omega
  · left; omega
  · left; omega
  · right; exact ⟨by omega, List.lt_trans h h'⟩
theorem ahead_total {ws : List (List UInt8)} {x y : List UInt8} (h : x ≠ y) : ahead ws x y ∨ ahead ws y x := by
  rcases Int.lt_trichotomy (gainS ws x) (gainS ws y) with h1 | h1 | h1
  · right; left; exact h1
  · by_cases hxy : x < y
    · left; right; exact ⟨h1, hxy⟩
    · right; right
      refine ⟨h1.symm, ?_⟩
      rcases List.le_iff_lt_or_eq.1 (List.not_lt.1 hxy) with h2 | h2
      · exact h2
      · exact absurd h2.symm h
  · left; left; exact h1

/-- the best word of the first k that is not in out, as the reference finds it. -/
def bestTo (ws out : List (List UInt8)) : Nat → List UInt8 × Int
  | 0 => ([], 0)
  | k + 1 =>
    if isWordB (gs ws k) = false ∨ gs ws k ∈ out then bestTo ws out k
    else if (bestTo ws out k).2 < gainS ws (gs ws k) ∨ (gainS ws (gs ws k) = (bestTo ws out k).2 ∧ 0 < gainS ws (gs ws k) ∧ gs ws k < (bestTo ws out k).1) then (gs ws k, gainS ws (gs ws k)) else bestTo ws out k
def learnSel (ws : List (List UInt8)) : Nat → List (List UInt8) → List (List UInt8)
  | 0, out => out
  | m + 1, out => if (bestTo ws out ws.length).2 ≤ 0 then out else learnSel ws m (out ++ [(bestTo ws out ws.length).1])

structure Best (ws out : List (List UInt8)) (k : Nat) : Prop where
  lo : 0 ≤ (bestTo ws out k).2
  mem : 0 < (bestTo ws out k).2 → (bestTo ws out k).1 ∈ ws ∧ candP ws (bestTo ws out k).1 ∧ (bestTo ws out k).1 ∉ out ∧ gainS ws (bestTo ws out k).1 = (bestTo ws out k).2
  all : ∀ j, j < k → isWordB (gs ws j) = true → gs ws j ∉ out → gainS ws (gs ws j) ≤ 0 ∨ (0 < (bestTo ws out k).2 ∧ (gs ws j = (bestTo ws out k).1 ∨ ahead ws (bestTo ws out k).1 (gs ws j)))
theorem best_any {ws out : List (List UInt8)} : ∀ {k : Nat}, k ≤ ws.length → Best ws out k
  | 0, _ => ⟨Int.le_refl _, fun h => absurd h (by simp [bestTo]), fun j hj => absurd hj (by omega)⟩
  | k + 1, hk => by
    have ih := best_any (ws := ws) (out := out) (k := k) (by omega)
    by_cases h1 : isWordB (gs ws k) = false ∨ gs ws k ∈ out
    · have e : bestTo ws out (k + 1) = bestTo ws out k := by rw [bestTo, if_pos h1]
      refine ⟨by rw [e]; exact ih.lo, by rw [e]; exact ih.mem, fun j hj a b => ?_⟩
      rw [e]
      rcases Nat.lt_succ_iff_lt_or_eq.1 hj with h | rfl
      · exact ih.all j h a b
      · rcases h1 with h1 | h1
        · rw [h1] at a; cases a
        · exact absurd h1 b
    · have h1' : isWordB (gs ws k) = true ∧ gs ws k ∉ out := by
        constructor
        · exact Bool.not_eq_false _ ▸ (fun h => h1 (.inl h))
        · exact fun h => h1 (.inr h)
      have hlo := ih.lo
      by_cases h2 : (bestTo ws out k).2 < gainS ws (gs ws k) ∨ (gainS ws (gs ws k) = (bestTo ws out k).2 ∧ 0 < gainS ws (gs ws k) ∧ gs ws k < (bestTo ws out k).1)
      · have e : bestTo ws out (k + 1) = (gs ws k, gainS ws (gs ws k)) := by rw [bestTo, if_neg h1, if_pos h2]
        have hpos : 0 < gainS ws (gs ws k) := by rcases h2 with h2 | h2 <;> omega
        refine ⟨by rw [e]; exact Int.le_of_lt hpos, fun _ => ?_, fun j hj a b => ?_⟩
        · rw [e]
          exact ⟨by rw [gs_get (by omega)]; exact List.getElem_mem _, ⟨h1'.1, hpos⟩, h1'.2, rfl⟩
        · rw [e]
          rcases Nat.lt_succ_iff_lt_or_eq.1 hj with h | rfl
          · rcases ih.all j h a b with h3 | ⟨h3, h4⟩
            · exact .inl h3
            · refine .inr ⟨hpos, .inr ?_⟩
              have hb := (ih.mem h3).2.2.2
              have hah : ahead ws (gs ws k) (bestTo ws out k).1 := by
                rcases h2 with h2 | ⟨h2, -, h5⟩
                · left; rw [hb]; exact h2
                · right; exact ⟨by rw [hb]; exact h2, h5⟩
              rcases h4 with h4 | h4
              · rw [h4]; exact hah
              · exact ahead_trans hah h4
          · exact .inr ⟨hpos, .inl rfl⟩
      · have e : bestTo ws out (k + 1) = bestTo ws out k := by rw [bestTo, if_neg h1, if_neg h2]
        refine ⟨by rw [e]; exact ih.lo, by rw [e]; exact ih.mem, fun j hj a b => ?_⟩
        rw [e]
        rcases Nat.lt_succ_iff_lt_or_eq.1 hj with h | rfl
        · exact ih.all j h a b
        · by_cases hg : gainS ws (gs ws j) ≤ 0
          · exact .inl hg
          · right
            have h3 : gainS ws (gs ws j) ≤ (bestTo ws out j).2 := by
              rcases Int.lt_or_le (bestTo ws out j).2 (gainS ws (gs ws j)) with h | h
              · exact absurd (.inl h) h2
              · exact h
            have hp : 0 < (bestTo ws out j).2 := by omega
            have hb := (ih.mem hp).2.2.2
            refine ⟨hp, ?_⟩
            by_cases he : gs ws j = (bestTo ws out j).1
            · exact .inl he
            · right
              rcases ahead_total (ws := ws) he with h4 | h4
              · exfalso
                rcases h4 with h4 | ⟨h4, h5⟩
                · omega
                · exact h2 (.inr ⟨by omega, by omega, h5⟩)
              · exact h4

/-- the list in its order: the candidates, each once. -/
structure Ranked (ws S : List (List UInt8)) : Prop where
  ord : S.Pairwise (ahead ws)
  mem : ∀ s, s ∈ S ↔ s ∈ ws ∧ candP ws s
theorem Ranked.take_not {ws S : List (List UInt8)} (h : Ranked ws S) {j i : Nat} (hi : i < S.length) : S[i] ∈ S.take j ↔ i < j := by
  constructor
  · intro hm
    obtain ⟨k, hk, e⟩ := List.mem_iff_getElem.1 hm
    rw [List.getElem_take] at e
    simp at hk
    rcases Nat.lt_trichotomy k i with h1 | h1 | h1
    · have := List.pairwise_iff_getElem.1 h.ord k i (by omega) hi h1
      rw [e] at this
      exact absurd this ahead_irrefl
    · omega
    · have := List.pairwise_iff_getElem.1 h.ord i k hi (by omega) h1
      rw [e] at this
      exact absurd this ahead_irrefl
  · intro hlt
    exact List.mem_iff_getElem.2 ⟨i, by simp; omega, by rw [List.getElem_take]⟩
theorem Ranked.best {ws S : List (List UInt8)} (h : Ranked ws S) (j : Nat) :
    (j < S.length → bestTo ws (S.take j) ws.length = (gs S j, gainS ws (gs S j)) ∧ 0 < gainS ws (gs S j)) ∧ (S.length ≤ j → (bestTo ws (S.take j) ws.length).2 ≤ 0) := by
  have B := best_any (ws := ws) (out := S.take j) (Nat.le_refl _)
  have hin : 0 < (bestTo ws (S.take j) ws.length).2 → ∃ i, ∃ hi : i < S.length, j ≤ i ∧ S[i] = (bestTo ws (S.take j) ws.length).1 := fun hp => by
    obtain ⟨m1, m2, m3, m4⟩ := B.mem hp
    obtain ⟨i, hi, e⟩ := List.mem_iff_getElem.1 ((h.mem _).2 ⟨m1, m2⟩)
    refine ⟨i, hi, ?_, e⟩
    rcases Nat.lt_or_ge i j with h1 | h1
    · exact absurd (by rw [← e]; exact (h.take_not hi).2 h1) m3
    · exact h1
  constructor
  · intro hj
    rw [gs_get hj]
    obtain ⟨m1, m2⟩ := (h.mem _).1 (List.getElem_mem hj)
    obtain ⟨a, ha, e⟩ := List.mem_iff_getElem.1 m1
    have hnot : S[j] ∉ S.take j := fun hm => absurd ((h.take_not hj).1 hm) (Nat.lt_irrefl _)
    have := B.all a ha (by rw [gs_get ha, e]; exact m2.1) (by rw [gs_get ha, e]; exact hnot)
    rw [gs_get ha, e] at this
    have hpos := m2.2
    rcases this with h1 | ⟨h1, h2⟩
    · omega
    · have hb := (B.mem h1).2.2.2
      have he : S[j] = (bestTo ws (S.take j) ws.length).1 := by
        rcases h2 with h2 | h2
        · exact h2
        · obtain ⟨i, hi, hji, e2⟩ := hin h1
          rcases Nat.lt_or_eq_of_le hji with h3 | h3
          · have := List.pairwise_iff_getElem.1 h.ord j i hj hi h3
            rw [e2] at this
            exact absurd (ahead_trans this h2) ahead_irrefl
          · subst h3; exact e2
      refine ⟨?_, hpos⟩
      rw [he, hb]
  · intro hj
    rcases Int.lt_or_le 0 (bestTo ws (S.take j) ws.length).2 with h1 | h1
    · obtain ⟨i, hi, hji, _⟩ := hin h1
      omega
    · exact h1
theorem Ranked.sel {ws S : List (List UInt8)} (h : Ranked ws S) : ∀ (m j : Nat), learnSel ws m (S.take j) = S.take (j + m)
  | 0, j => rfl
  | m + 1, j => by
    rw [learnSel]
    rcases Nat.lt_or_ge j S.length with hj | hj
    · obtain ⟨h1, h2⟩ := (h.best j).1 hj
      rw [h1]
      simp only
      rw [if_neg (by omega)]
      have : S.take j ++ [gs S j] = S.take (j + 1) := by rw [List.take_succ_eq_append_getElem hj, gs_get hj]
      rw [this, h.sel m (j + 1), Nat.add_right_comm, Nat.add_assoc]
    · rw [if_pos ((h.best j).2 hj), List.take_of_length_le hj, List.take_of_length_le (by omega)]
def learnL (bs : List UInt8) (most : Nat) : List (List UInt8) := learnSel (wordsL bs) most []
theorem Ranked.learn {bs : List UInt8} {S : List (List UInt8)} (h : Ranked (wordsL bs) S) (most : Nat) : S.take most = learnL bs most := by
  have := h.sel most 0
  rw [List.take_zero, Nat.zero_add] at this
  exact this.symm
end Go.Proofs.YtdebhdopginllaaDoor
