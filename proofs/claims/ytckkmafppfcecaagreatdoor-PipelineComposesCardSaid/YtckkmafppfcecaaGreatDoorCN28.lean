/- Yz. -/
import Derived.Test.YtckkmafppfcecaaGreatDoorCN02
import Derived.Lib.Replace
import Derived.Shelf.Strings.Repeat
/- Printed pipelines are read back, whatever the number of spaces; plainly. -/
namespace Go.Proofs.YtckkmafppfcecaaGreatDoor
open Go.RowKit Go.Proofs
set_option linter.unusedVariables false
set_option linter.unusedSimpArgs false

def full (p : List UInt8) : Bool := decide (p ≠ [])
def textsP (s : List UInt8) : List (List UInt8) := (spl s).filter full
theorem placed_texts : ∀ (ps : List (List UInt8)) (i : Nat), (placed ps i).map (·.1) = ps.filter full
  | [], _ => rfl
  | p :: ps, i => by
    unfold placed
    by_cases hp : p = []
    · rw [if_pos hp, placed_texts ps, List.filter_cons, if_neg (by simp [full, hp])]
    · rw [if_neg hp, List.map_cons, placed_texts ps, List.filter_cons, if_pos (by simp [full, hp])]
theorem words_texts (s : List UInt8) : (wordsP s).map (·.1) = textsP s := placed_texts _ _
theorem texts_nil : textsP [] = [] := rfl
theorem texts_sp (s : List UInt8) : textsP (32 :: s) = textsP s := by
  unfold textsP
  rw [spl, if_pos rfl, List.filter_cons, if_neg (by simp [full])]
theorem texts_sps (s : List UInt8) : ∀ p : Nat, textsP (List.replicate p 32 ++ s) = textsP s
  | 0 => rfl
  | p + 1 => by rw [List.replicate_succ, List.cons_append, texts_sp, texts_sps s p]
theorem texts_word {x r : List UInt8} (h : (32 : UInt8) ∉ x) (hx : x ≠ []) : textsP (x ++ 32 :: r) = x :: textsP r := by
  unfold textsP
  rw [spl_word h, List.filter_cons, if_pos (by simp [full, hx])]
theorem texts_last {x : List UInt8} (h : (32 : UInt8) ∉ x) (hx : x ≠ []) : textsP x = [x] := by
  unfold textsP
  rw [spl_last h, List.filter_cons, if_pos (by simp [full, hx])]; rfl
/-- each space becomes k. -/
def wideP (k : Nat) (s : List UInt8) : List UInt8 := s.flatMap fun c => if c = 32 then List.replicate k 32 else [c]
theorem wide_no {k : Nat} : ∀ {x : List UInt8}, (32 : UInt8) ∉ x → wideP k x = x
  | [], _ => rfl
  | b :: l, h => by
    have hb : ¬ b = (32 : UInt8) := fun e => h (by simp [e])
    have := wide_no (k := k) (x := l) (fun hm => h (by simp [hm]))
    unfold wideP at this ⊢
    rw [List.flatMap_cons, if_neg hb, this]; rfl
theorem wide_word {k : Nat} {x r : List UInt8} (h : (32 : UInt8) ∉ x) : wideP k (x ++ 32 :: r) = x ++ (List.replicate k 32 ++ wideP k r) := by
  have := wide_no (k := k) h
  unfold wideP at this ⊢
  rw [List.flatMap_append, this, List.flatMap_cons, if_pos rfl]
theorem wide_one (s : List UInt8) : wideP 1 s = s := by
  induction s with
  | nil => rfl
  | cons b l ih =>
    unfold wideP at ih ⊢
    rw [List.flatMap_cons, ih]
    by_cases hb : b = 32
    · rw [if_pos hb, hb]; rfl
    · rw [if_neg hb]; rfl
theorem wide_length {k : Nat} (hk : 1 ≤ k) : ∀ s : List UInt8, (wideP k s).length ≤ k * s.length
  | [] => Nat.zero_le _
  | b :: l => by
    have := wide_length hk l
    unfold wideP at this ⊢
    rw [List.flatMap_cons, List.length_append, List.length_cons, Nat.mul_add]
    by_cases hb : b = 32
    · rw [if_pos hb, List.length_replicate]; omega
    · rw [if_neg hb]; simp only [List.length_singleton]; omega
def WordOk (x : List UInt8) : Prop := (32 : UInt8) ∉ x ∧ x ≠ []
theorem texts_join : ∀ ws : List (List UInt8), (∀ x ∈ ws, WordOk x) → textsP (joinP ws) = ws
  | [], _ => rfl
  | [x], h => by
    have := h x (by simp)
    rw [joinP, texts_last this.1 this.2]
  | x :: y :: l, h => by
    have := h x (by simp)
    rw [joinP, texts_word this.1 this.2, texts_join (y :: l) fun z hz => h z (by simp at hz ⊢; exact .inr hz)]
theorem texts_wide {k : Nat} (hk : 1 ≤ k) : ∀ ws : List (List UInt8), (∀ x ∈ ws, WordOk x) → textsP (wideP k (joinP ws) ++ [32]) = ws
  | [], _ => rfl
  | [x], h => by
    have := h x (by simp)
    rw [joinP, wide_no this.1, texts_word this.1 this.2]; rfl
  | x :: y :: l, h => by
    have := h x (by simp)
    obtain ⟨k', rfl⟩ : ∃ k', k = k' + 1 := ⟨k - 1, by omega⟩
    have ih := texts_wide (k := k' + 1) hk (y :: l) fun z hz => h z (by simp at hz ⊢; exact .inr hz)
    rw [joinP, wide_word this.1, List.replicate_succ, List.append_assoc, List.cons_append, List.cons_append, texts_word this.1 this.2, List.append_assoc, texts_sps, ih]
theorem repeat32 : ∀ n, Lib.repeatL [32] n = List.replicate n (32 : UInt8)
  | 0 => rfl
  | n + 1 => by
    have := repeat32 n
    show [32] ++ Lib.repeatL [32] n = _
    rw [this]; rfl
theorem replaceK_wide (k : Nat) (n : Nat) : ∀ s : List UInt8, s.length ≤ n → Lib.replaceK [32] (List.replicate k 32) (Lib.count s [32]) s = wideP k s := by
  induction n with
  | zero =>
    intro s hs
    obtain rfl : s = [] := List.eq_nil_of_length_eq_zero (by omega)
    rfl
  | succ n ih =>
    intro s hs
    rcases cut32 s with h | ⟨x, r, rfl, h⟩
    · rw [Lib.count_miss (index_miss32 h), wide_no h]; rfl
    · have hd : List.drop (x.length + [(32 : UInt8)].length) (x ++ 32 :: r) = r := by simp [List.drop_append]
      rw [Lib.count_hit (by simp) (index_hit32 h), hd, Nat.add_comm 1, Lib.replaceK_hit _ _ _ _ _ (index_hit32 h), hd, ih r (by simp at hs; omega), wide_word h]
      simp
theorem replace_wide (k : Nat) (s : List UInt8) : Lib.replaceAll s [32] (List.replicate k 32) = wideP k s := by
  unfold Lib.replaceAll Lib.replace
  by_cases hk : k = 1
  · subst hk
    rw [if_pos (by decide), wide_one]
  · rw [if_neg (by
      rw [beq_iff_eq]
      intro e
      have := congrArg List.length e
      rw [List.length_replicate, List.length_singleton] at this
      exact hk this.symm)]
    unfold Lib.replaceNum
    rw [if_pos (.inl (by decide))]
    exact replaceK_wide k _ s (Nat.le_refl _)

def StgOk (s : Stg) : Prop := 0 ≤ s.1 ∧ s.1 < 10 ∧ (s.1 = 0 → 1 ≤ s.2 ∧ s.2 ≤ 64) ∧ (s.1 ≠ 0 → s.2 = 0)
theorem errP_ok {s : Stg} {t : Ty} (h : errP s t = 0) : StgOk s := by
  unfold errP at h
  unfold StgOk
  split at h
  · omega
  · split at h
    · omega
    · omega
theorem fstE_all {f : Nat → Int} : ∀ (m k : Nat), (fstE f m k).1 = 0 → ∀ j, k ≤ j → j < k + m → f j = 0
  | 0, k, _, j, h1, h2 => by omega
  | m + 1, k, h, j, h1, h2 => by
    rw [fstE] at h
    by_cases hk : f k = 0
    · rw [if_pos hk] at h
      rcases Nat.eq_or_lt_of_le h1 with h3 | h3
      · rw [← h3]; exact hk
      · exact fstE_all m (k + 1) h j h3 (by omega)
    · rw [if_neg hk] at h
      exact absurd h hk
theorem typE_ok {l : List Stg} {t : Ty} (h : (typE l t).1 = 0) : l.length ≤ 8 ∧ tyOk t = true ∧ (∀ k, k < l.length → eK l t k = 0) ∧ (∀ s ∈ l, StgOk s) := by
  unfold typE at h
  split at h
  · cases h
  · rename_i h1
    split at h
    · cases h
    · rename_i h2
      have ha := fstE_all _ _ h
      refine ⟨by omega, by simpa using h2, fun k hk => ha k (Nat.zero_le _) (by omega), fun s hs => ?_⟩
      obtain ⟨k, hk, rfl⟩ := List.getElem_of_mem hs
      have := ha k (Nat.zero_le _) (by omega)
      have hg : sG l k = l[k] := by unfold sG; rw [List.getD_eq_getElem?_getD, List.getElem?_eq_getElem hk]; rfl
      unfold eK at this
      rw [hg] at this
      exact errP_ok this
theorem kind_name (k : Int) (h0 : 0 ≤ k) (h1 : k < 10) : kindP (nameP k) = k := by
  have : ∀ k : Fin 10, kindP (nameP ((k.val : Nat) : Int)) = (k.val : Nat) := by decide +kernel
  have := this ⟨k.toNat, by omega⟩
  rwa [show (((⟨k.toNat, by omega⟩ : Fin 10).val : Nat) : Int) = k by simp; omega] at this
theorem name_word (k : Int) (h0 : 0 ≤ k) (h1 : k < 10) : WordOk (nameP k) ∧ (nameP k).length ≤ 10 := by
  have : ∀ k : Fin 10, ((32 : UInt8) ∉ nameP ((k.val : Nat) : Int) ∧ nameP ((k.val : Nat) : Int) ≠ []) ∧ (nameP ((k.val : Nat) : Int)).length ≤ 10 := by decide +kernel
  have := this ⟨k.toNat, by omega⟩
  rwa [show (((⟨k.toNat, by omega⟩ : Fin 10).val : Nat) : Int) = k by simp; omega] at this
theorem words_ok : ∀ (l : List Stg), (∀ s ∈ l, StgOk s) → (∀ x ∈ wordsOf l, WordOk x) ∧ (joinP (wordsOf l)).length ≤ 14 * l.length
  | [], _ => ⟨by simp [wordsOf], Nat.zero_le _⟩
  | s :: l, h => by
    have hs := h s (by simp)
    obtain ⟨ih1, ih2⟩ := words_ok l fun z hz => h z (by simp [hz])
    obtain ⟨hn, hnl⟩ := name_word s.1 hs.1 hs.2.1
    have hj : ∀ (x : List UInt8) (ws : List (List UInt8)), (joinP (x :: ws)).length ≤ x.length + 1 + (joinP ws).length := by
      intro x ws
      cases ws with
      | nil => simp [joinP]
      | cons y l => simp [joinP]; omega
    by_cases h0 : s.1 = 0
    · have hd : WordOk (decS s.2.toNat) := ⟨decS_no (by decide), decS_ne _⟩
      have hdl := decS_len 1 s.2.toNat (by have := hs.2.2.1 h0; omega)
      rw [wordsOf, if_pos h0]
      have h1 := hj (nameP s.1) ([decS s.2.toNat] ++ wordsOf l)
      have h2 := hj (decS s.2.toNat) (wordsOf l)
      have hnl : (nameP s.1).length = 5 := by rw [h0]; rfl
      refine ⟨?_, ?_⟩
      · intro x hx
        simp at hx
        rcases hx with rfl | rfl | hx
        · exact hn
        · exact hd
        · exact ih1 x hx
      · rw [List.singleton_append] at h1
        rw [List.singleton_append, List.length_cons]
        omega
    · rw [wordsOf, if_neg h0, List.nil_append]
      have h1 := hj (nameP s.1) (wordsOf l)
      refine ⟨?_, ?_⟩
      · intro x hx
        rcases List.mem_cons.1 hx with rfl | hx
        · exact hn
        · exact ih1 x hx
      · rw [List.length_cons]; omega
theorem read_words (n : Nat) : ∀ (l : List Stg) (W : List (List UInt8 × Nat)), (∀ s ∈ l, StgOk s) → W.map (·.1) = wordsOf l → ∃ o, readP n W = .ok o ∧ o.map (·.1) = l
  | [], W, _, h => by
    have : W = [] := by simpa [wordsOf] using h
    subst this
    exact ⟨[], rfl, rfl⟩
  | s :: l, W, hok, h => by
    have hs := hok s (by simp)
    have hkn := kind_name s.1 hs.1 hs.2.1
    by_cases h0 : s.1 = 0
    · rw [wordsOf, if_pos h0, List.singleton_append] at h
      match W, h with
      | [_], h => simp at h
      | w :: v :: r, h =>
        simp only [List.map_cons, List.cons.injEq] at h
        obtain ⟨hw, hv, hr⟩ := h
        obtain ⟨o, ho, hol⟩ := read_words n l r (fun z hz => hok z (by simp [hz])) hr
        have hsz := hs.2.2.1 h0
        refine ⟨((0, ((s.2.toNat : Nat) : Int)), w.2) :: o, ?_, ?_⟩
        · rw [readP, hw, hkn, if_neg (by omega), if_pos h0]
          simp only [hv, numP_dec (show s.2.toNat ≤ 9007199254740991 by omega), ho]
          rfl
        · rw [List.map_cons, hol]
          congr 1
          apply Prod.ext
          · exact h0.symm
          · show ((s.2.toNat : Nat) : Int) = s.2
            omega
    · rw [wordsOf, if_neg h0, List.nil_append] at h
      match W, h with
      | w :: r, h =>
        simp only [List.map_cons, List.cons.injEq] at h
        obtain ⟨hw, hr⟩ := h
        obtain ⟨o, ho, hol⟩ := read_words n l r (fun z hz => hok z (by simp [hz])) hr
        refine ⟨((s.1, 0), w.2) :: o, ?_, ?_⟩
        · rw [readP.eq_def]
          simp only
          rw [hw, hkn, if_neg (by have := hs.1; omega), if_neg h0, ho]
          rfl
        · rw [List.map_cons, hol]
          congr 1
          apply Prod.ext
          · rfl
          · exact (hs.2.2.2 h0).symm
theorem parse_of {s : List UInt8} {l : List Stg} (hl : s.length ≤ 8192) (h : (typE l (0, 0)).1 = 0) (ht : textsP s = wordsOf l) : parseP s = (l, 0, 0) := by
  obtain ⟨_, _, _, hok⟩ := typE_ok h
  obtain ⟨o, ho, hol⟩ := read_words s.length l (wordsP s) hok (by rw [words_texts, ht])
  unfold parseP
  rw [if_neg (by omega), ho]
  simp only [hol]
  rw [if_pos h]
theorem parse_print {l : List Stg} (h : (typE l (0, 0)).1 = 0) : (joinP (wordsOf l)).length ≤ 112 ∧ parseP (joinP (wordsOf l)) = (l, 0, 0) := by
  obtain ⟨h8, _, _, hok⟩ := typE_ok h
  obtain ⟨hw, hlen⟩ := words_ok l hok
  exact ⟨by omega, parse_of (by omega) h (texts_join _ hw)⟩
theorem parse_wide {l : List Stg} (h : (typE l (0, 0)).1 = 0) {p k : Nat} (hp : p ≤ 4) (hk : 1 ≤ k) (hk3 : k ≤ 3) :
    (List.replicate p (32 : UInt8) ++ wideP k (joinP (wordsOf l)) ++ [32]).length ≤ 400 ∧ parseP (List.replicate p 32 ++ wideP k (joinP (wordsOf l)) ++ [32]) = (l, 0, 0) := by
  obtain ⟨h8, _, _, hok⟩ := typE_ok h
  obtain ⟨hw, hlen⟩ := words_ok l hok
  have hwl := wide_length hk (joinP (wordsOf l))
  have h3 : k * (joinP (wordsOf l)).length ≤ 3 * (joinP (wordsOf l)).length := Nat.mul_le_mul_right _ hk3
  have hlen2 : (List.replicate p (32 : UInt8) ++ wideP k (joinP (wordsOf l)) ++ [32]).length ≤ 400 := by
    simp only [List.length_append, List.length_replicate, List.length_singleton]; omega
  exact ⟨hlen2, parse_of (by omega) h (by rw [List.append_assoc, texts_sps, texts_wide hk _ hw])⟩
end Go.Proofs.YtckkmafppfcecaaGreatDoor
