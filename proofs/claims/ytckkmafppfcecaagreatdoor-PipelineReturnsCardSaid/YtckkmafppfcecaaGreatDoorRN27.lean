/- Ds Po Pd Pe. -/
import Derived.Test.YtckkmafppfcecaaGreatDoorRN00
import Derived.Test.YtckkmafppfcecaaGreatDoorRN09
import Derived.Sort.Statements
set_option maxRecDepth 100000
set_option maxHeartbeats 4000000
namespace Go.Proofs.YtckkmafppfcecaaGreatDoor.Dic
open Go.RowKit Go.Proofs
set_option linter.unusedVariables false
def letterI (x : Int) : Bool := if 97 ≤ x then (if x ≤ 122 then true else (if 65 ≤ x then decide (x ≤ 90) else false)) else (if 65 ≤ x then decide (x ≤ 90) else false)
def isL (b : UInt8) : Bool := letterI (b.toNat : Int)
def runL : List UInt8 → Nat
  | [] => 0
  | b :: r => if isL b then runL r + 1 else 0
theorem runL_le : ∀ bs : List UInt8, runL bs ≤ bs.length
  | [] => Nat.le_refl _
  | b :: r => by rw [runL]; have := runL_le r; split <;> simp <;> omega
theorem runL_letter : ∀ {bs : List UInt8} {k : Nat}, k < runL bs → letterI (gb bs k) = true
  | [], k, h => by simp [runL] at h
  | b :: r, k, h => by
    rw [runL] at h
    split at h
    · rename_i hb
      cases k with
      | zero => exact hb
      | succ k => exact runL_letter (bs := r) (k := k) (by omega)
    · omega
theorem runL_stop : ∀ {bs : List UInt8}, runL bs < bs.length → letterI (gb bs (runL bs)) = false
  | [], h => by simp at h
  | b :: r, h => by
    rw [runL] at h ⊢
    by_cases hb : isL b = true
    · rw [if_pos hb] at h ⊢
      have := runL_stop (bs := r) (by simp at h; omega)
      exact this
    · rw [if_neg hb]
      exact Bool.eq_false_iff.2 hb
theorem runL_eq {bs : List UInt8} {k : Nat} (h1 : ∀ i, i < k → letterI (gb bs i) = true) (h2 : k ≤ bs.length) (h3 : k < bs.length → letterI (gb bs k) = false) : runL bs = k := by
  rcases Nat.lt_trichotomy (runL bs) k with h | h | h
  · have := runL_stop (bs := bs) (by omega)
    rw [h1 _ h] at this
    cases this
  · exact h
  · have := runL_letter h
    rw [h3 (by have := runL_le bs; omega)] at this
    cases this
def plen (bs : List UInt8) : Nat := max (runL bs) 1
theorem plen_pos (bs : List UInt8) : 1 ≤ plen bs := by unfold plen; omega
theorem plen_le {bs : List UInt8} (h : bs ≠ []) : plen bs ≤ bs.length := by
  have := runL_le bs
  have : 0 < bs.length := List.length_pos_iff.2 h
  unfold plen; omega
def piecesF : Nat → List UInt8 → List (List UInt8)
  | 0, _ => []
  | f + 1, bs => if bs = [] then [] else bs.take (plen bs) :: piecesF f (bs.drop (plen bs))
def piecesL (bs : List UInt8) : List (List UInt8) := piecesF bs.length bs
theorem piecesF_fuel : ∀ {f g : Nat} {bs : List UInt8}, bs.length ≤ f → bs.length ≤ g → piecesF f bs = piecesF g bs
  | 0, 0, _, _, _ => rfl
  | 0, g + 1, bs, h, _ => by
    have : bs = [] := List.length_eq_zero_iff.1 (by omega)
    subst this; simp [piecesF]
  | f + 1, 0, bs, _, h => by
    have : bs = [] := List.length_eq_zero_iff.1 (by omega)
    subst this; simp [piecesF]
  | f + 1, g + 1, bs, h1, h2 => by
    rw [piecesF, piecesF]
    by_cases h : bs = []
    · rw [if_pos h, if_pos h]
    · rw [if_neg h, if_neg h]
      have := plen_pos bs
      have hl : 0 < bs.length := List.length_pos_iff.2 h
      rw [piecesF_fuel (f := f) (g := g) (by simp; omega) (by simp; omega)]
theorem piecesL_nil : piecesL [] = [] := rfl
theorem piecesL_cons {bs : List UInt8} (h : bs ≠ []) : piecesL bs = bs.take (plen bs) :: piecesL (bs.drop (plen bs)) := by
  have hl : 0 < bs.length := List.length_pos_iff.2 h
  have := plen_pos bs
  unfold piecesL
  obtain ⟨m, hm⟩ : ∃ m, bs.length = m + 1 := ⟨bs.length - 1, by omega⟩
  rw [hm, piecesF, if_neg h]
  congr 1
  exact piecesF_fuel (by simp; omega) (Nat.le_refl _)
def stP (bs : List UInt8) : Nat → Nat
  | 0 => 0
  | k + 1 => stP bs k + plen (bs.drop (stP bs k))
def pcP (bs : List UInt8) (k : Nat) : List UInt8 := (bs.drop (stP bs k)).take (plen (bs.drop (stP bs k)))
def wdP (bs : List UInt8) (k : Nat) : Bool := decide (0 < runL (bs.drop (stP bs k)))
theorem pieces_at {bs : List UInt8} : ∀ {k : Nat}, k ≤ (piecesL bs).length → stP bs k ≤ bs.length ∧ piecesL (bs.drop (stP bs k)) = (piecesL bs).drop k
  | 0, _ => by simp [stP]
  | k + 1, h => by
    obtain ⟨h1, h2⟩ := pieces_at (bs := bs) (k := k) (by omega)
    have hne : bs.drop (stP bs k) ≠ [] := fun e => by
      rw [e, piecesL_nil] at h2
      have := congrArg List.length h2
      simp at this
      omega
    have hp := plen_le hne
    rw [List.length_drop] at hp
    refine ⟨by rw [stP]; omega, ?_⟩
    rw [piecesL_cons hne, List.drop_drop] at h2
    rw [stP]
    have := congrArg List.tail h2
    rw [List.tail_cons, List.tail_drop] at this
    exact this
theorem pieces_ne {bs : List UInt8} {k : Nat} (h : k < (piecesL bs).length) : bs.drop (stP bs k) ≠ [] := fun e => by
  have h2 := (pieces_at (bs := bs) (k := k) (by omega)).2
  rw [e, piecesL_nil] at h2
  have := congrArg List.length h2
  simp at this
  omega
theorem pieces_end (bs : List UInt8) : stP bs (piecesL bs).length = bs.length := by
  obtain ⟨h1, h2⟩ := pieces_at (bs := bs) (k := (piecesL bs).length) (Nat.le_refl _)
  rw [List.drop_length] at h2
  rcases Nat.lt_or_ge (stP bs (piecesL bs).length) bs.length with h | h
  · rw [piecesL_cons (fun e => by have := congrArg List.length e; simp at this; omega)] at h2
    cases h2
  · omega
theorem pieces_more {bs : List UInt8} {k : Nat} (h : k ≤ (piecesL bs).length) (hl : stP bs k < bs.length) : k < (piecesL bs).length := by
  rcases Nat.lt_or_ge k (piecesL bs).length with h1 | h1
  · exact h1
  · have : k = (piecesL bs).length := by omega
    rw [this, pieces_end] at hl
    omega
end Go.Proofs.YtckkmafppfcecaaGreatDoor.Dic
namespace Go.Proofs.YtckkmafppfcecaaGreatDoor.Bwt
set_option linter.unusedVariables false
theorem less_cons (a b : UInt8) (x y : List UInt8) : less (a :: x) (b :: y) = true ↔ a.toNat < b.toNat ∨ a = b ∧ less x y = true := by
  show (decide (a < b) || (a == b && Op.bytesLess x y)) = true ↔ _
  simp [UInt8.lt_iff_toNat_lt, less]
theorem less_nil (x : List UInt8) : less x [] = false := by cases x <;> rfl
theorem less_irrefl : ∀ x : List UInt8, less x x = false
  | [] => rfl
  | a :: x => by
    have := less_irrefl x
    cases h : less (a :: x) (a :: x) with
    | false => rfl
    | true =>
      rcases (less_cons _ _ _ _).1 h with h | ⟨_, h⟩
      · omega
      · rw [this] at h; cases h
theorem less_trans : ∀ {x y z : List UInt8}, less x y = true → less y z = true → less x z = true
  | [], [], _, h, _ => by rw [less_nil] at h; cases h
  | [], _ :: _, [], _, h => by rw [less_nil] at h; cases h
  | [], _ :: _, _ :: _, _, _ => rfl
  | _ :: _, [], _, h, _ => by rw [less_nil] at h; cases h
  | _ :: _, _ :: _, [], _, h => by rw [less_nil] at h; cases h
  | a :: x, b :: y, c :: z, h1, h2 => by
    rw [less_cons] at h1 h2 ⊢
    rcases h1 with h1 | ⟨rfl, h1⟩
    · rcases h2 with h2 | ⟨rfl, h2⟩
      · exact .inl (by omega)
      · exact .inl h1
    · rcases h2 with h2 | ⟨rfl, h2⟩
      · exact .inl h2
      · exact .inr ⟨rfl, less_trans h1 h2⟩
theorem less_total : ∀ {x y : List UInt8}, x ≠ y → less x y = true ∨ less y x = true
  | [], [], h => absurd rfl h
  | [], _ :: _, _ => .inl rfl
  | _ :: _, [], _ => .inr rfl
  | a :: x, b :: y, h => by
    rw [less_cons, less_cons]
    by_cases e : a = b
    · subst e
      rcases less_total (x := x) (y := y) (fun e => h (by rw [e])) with h | h
      · exact .inl (.inr ⟨rfl, h⟩)
      · exact .inr (.inr ⟨rfl, h⟩)
    · have : a.toNat ≠ b.toNat := fun h => e (UInt8.toNat_inj.1 h)
      rcases Nat.lt_or_gt_of_ne this with h | h
      · exact .inl (.inl h)
      · exact .inr (.inl h)
theorem less_asymm {x y : List UInt8} (h : less x y = true) : less y x = false := by
  cases h' : less y x with
  | false => rfl
  | true => have := less_trans h h'; rw [less_irrefl] at this; cases this
def before (bs : List UInt8) (a b : Int) : Prop := less (sfx bs a) (sfx bs b) = true
theorem sfx_ne {bs : List UInt8} {a b : Int} (ha : 0 ≤ a) (ha' : a ≤ bs.length) (hb : 0 ≤ b) (hb' : b ≤ bs.length) (h : a ≠ b) : sfx bs a ≠ sfx bs b := by
  intro e
  have := congrArg List.length e
  simp [sfx] at this
  omega
theorem before_total {bs : List UInt8} {a b : Int} (ha : 0 ≤ a) (ha' : a ≤ bs.length) (hb : 0 ≤ b) (hb' : b ≤ bs.length) (h : a ≠ b) : before bs a b ∨ before bs b a := less_total (sfx_ne ha ha' hb hb' h)
theorem before_trans {bs : List UInt8} {a b c : Int} (h1 : before bs a b) (h2 : before bs b c) : before bs a c := less_trans h1 h2
theorem sorted_unique {α : Type} {R : α → α → Prop} (hirr : ∀ a b, R a b → ¬ R b a) : ∀ {l l' : List α}, l.Pairwise R → l'.Pairwise R → (∀ x, x ∈ l ↔ x ∈ l') → l = l'
  | [], [], _, _, _ => rfl
  | [], b :: l', _, _, h => absurd ((h b).2 (by simp)) (by simp)
  | a :: l, [], _, _, h => absurd ((h a).1 (by simp)) (by simp)
  | a :: l, b :: l', h1, h2, h => by
    rw [List.pairwise_cons] at h1 h2
    have hab : a = b := by
      rcases List.mem_cons.1 ((h a).1 (by simp)) with e | hm
      · exact e
      · rcases List.mem_cons.1 ((h b).2 (by simp)) with e | hm'
        · exact e.symm
        · exact absurd (h2.1 a hm) (hirr _ _ (h1.1 b hm'))
    subst hab
    have hna : a ∉ l := fun hm => hirr _ _ (h1.1 a hm) (h1.1 a hm)
    have hnb : a ∉ l' := fun hm => hirr _ _ (h2.1 a hm) (h2.1 a hm)
    rw [sorted_unique hirr h1.2 h2.2 (fun x => ⟨fun hx => ?_, fun hx => ?_⟩)]
    · rcases List.mem_cons.1 ((h x).1 (by simp [hx])) with e | hm
      · subst e; exact absurd hx hna
      · exact hm
    · rcases List.mem_cons.1 ((h x).2 (by simp [hx])) with e | hm
      · subst e; exact absurd hx hnb
      · exact hm
theorem pairwise_of_adj {α : Type} {R : α → α → Prop} (ht : ∀ a b c, R a b → R b c → R a c) : ∀ {l : List α}, (∀ i (h : i + 1 < l.length), R (l[i]'(by omega)) l[i + 1]) → l.Pairwise R
  | [], _ => List.Pairwise.nil
  | [a], _ => List.pairwise_singleton R a
  | a :: b :: l, h => by
    have h1 := pairwise_of_adj ht (l := b :: l) (fun i hi => h (i + 1) (by simp at hi ⊢; omega))
    have hab : R a b := h 0 (by simp)
    refine List.pairwise_cons.2 ⟨fun x hx => ?_, h1⟩
    rcases List.mem_cons.1 hx with rfl | hx
    · exact hab
    · exact ht _ _ _ hab ((List.pairwise_cons.1 h1).1 x hx)
theorem ahead_split (f : Int → Bool) : ∀ l : List Int, (∀ z ∈ l.take (ahead f l), f z = true) ∧ (∀ z, (l.drop (ahead f l)).head? = some z → f z = false)
  | [] => ⟨by simp, by simp⟩
  | a :: l => by
    have ih := ahead_split f l
    cases h : f a with
    | true =>
      have e : ahead f (a :: l) = ahead f l + 1 := by simp [ahead, List.takeWhile, h]
      rw [e]
      refine ⟨fun z hz => ?_, by simpa using ih.2⟩
      rw [List.take_succ_cons] at hz
      rcases List.mem_cons.1 hz with rfl | hz
      · exact h
      · exact ih.1 z hz
    | false =>
      have e : ahead f (a :: l) = 0 := by simp [ahead, List.takeWhile, h]
      rw [e]
      exact ⟨by simp, fun z hz => by simp at hz; subst hz; exact h⟩
theorem insP_sorted {bs : List UInt8} {l : List Int} {p : Int} (hl : l.Pairwise (before bs)) (hp : 0 ≤ p) (hp' : p ≤ bs.length) (hr : ∀ z ∈ l, 0 ≤ z ∧ z ≤ bs.length) (hn : p ∉ l) : (insP bs l p).Pairwise (before bs) := by
  have hs := ahead_split (fun z => less (sfx bs z) (sfx bs p)) l
  have e : l = l.take (insAt bs l p) ++ l.drop (insAt bs l p) := (List.take_append_drop _ _).symm
  have hl' := hl
  rw [e, List.pairwise_append] at hl'
  obtain ⟨h1, h2, h3⟩ := hl'
  have hlow : ∀ z ∈ l.take (insAt bs l p), before bs z p := hs.1
  have hhigh : ∀ z ∈ l.drop (insAt bs l p), before bs p z := by
    cases hd : l.drop (insAt bs l p) with
    | nil => simp
    | cons y r =>
      have hy : less (sfx bs y) (sfx bs p) = false := hs.2 y (by show (l.drop (insAt bs l p)).head? = _; rw [hd]; rfl)
      have hym : y ∈ l := List.mem_of_mem_drop (i := insAt bs l p) (by rw [hd]; simp)
      have hyb : before bs p y := by
        rcases before_total hp hp' (hr y hym).1 (hr y hym).2 (fun e => hn (e ▸ hym)) with h | h
        · exact h
        · rw [before, hy] at h; cases h
      rw [hd, List.pairwise_cons] at h2
      intro z hz
      rcases List.mem_cons.1 hz with rfl | hz
      · exact hyb
      · exact before_trans hyb (h2.1 z hz)
  unfold insP
  rw [List.append_assoc, List.pairwise_append]
  refine ⟨h1, ?_, ?_⟩
  · rw [List.singleton_append, List.pairwise_cons]
    exact ⟨hhigh, h2⟩
  · intro a ha b hb
    rw [List.singleton_append] at hb
    rcases List.mem_cons.1 hb with rfl | hb
    · exact hlow a ha
    · exact h3 a ha b hb
theorem mem_insP_iff {bs : List UInt8} {l : List Int} {p z : Int} : z ∈ insP bs l p ↔ z = p ∨ z ∈ l := by
  refine ⟨mem_insP, fun h => ?_⟩
  unfold insP
  simp only [List.mem_append, List.mem_singleton]
  rcases h with h | h
  · exact .inl (.inr h)
  · rw [← List.take_append_drop (insAt bs l p) l, List.mem_append] at h
    rcases h with h | h
    · exact .inl (.inl h)
    · exact .inr h
theorem mem_sortTo {bs : List UInt8} : ∀ {k : Nat}, k ≤ bs.length + 1 → ∀ z : Int, z ∈ sortTo bs k ↔ (bs.length : Int) < z + k ∧ z ≤ bs.length
  | 0, _, z => by simp [sortTo]
  | k + 1, hk, z => by
    rw [sortTo, mem_insP_iff, mem_sortTo (k := k) (by omega) z]
    omega
theorem sortTo_sorted (bs : List UInt8) : ∀ k, k ≤ bs.length + 1 → (sortTo bs k).Pairwise (before bs)
  | 0, _ => List.Pairwise.nil
  | k + 1, hk => by
    refine insP_sorted (sortTo_sorted bs k (by omega)) (by omega) (by omega) (sortTo_range bs k) (fun hm => ?_)
    have := (mem_sortTo (by omega) _).1 hm
    omega
theorem sortL_sorted (bs : List UInt8) : (sortL bs).Pairwise (before bs) := sortTo_sorted bs _ (Nat.le_refl _)
theorem mem_sortL {bs : List UInt8} {z : Int} : z ∈ sortL bs ↔ 0 ≤ z ∧ z ≤ bs.length := by
  unfold sortL
  rw [mem_sortTo (Nat.le_refl _)]
  omega
theorem sortL_length (bs : List UInt8) : (sortL bs).length = bs.length + 1 := sortTo_length bs _
theorem before_irr (bs : List UInt8) (a b : Int) (h : before bs a b) : ¬ before bs b a := fun h' => by
  rw [before, less_asymm h] at h'; cases h'
theorem sortL_perm (bs : List UInt8) : permErr (sortL bs) = 0 := by
  rw [permErr_zero_iff, sortL_length]
  refine ⟨fun z hz => by have := mem_sortL.1 hz; omega, ?_⟩
  refine (sortL_sorted bs).imp ?_
  intro a b h e
  subst e
  exact before_irr bs _ _ h h
theorem order_unique {bs : List UInt8} {zs : List Int} (hl : zs.length = bs.length + 1) (hp : permErr zs = 0) (ha : zs.Pairwise (before bs)) : zs = sortL bs := by
  refine sorted_unique (before_irr bs) ha (sortL_sorted bs) (fun x => ?_)
  rw [mem_sortL]
  obtain ⟨h1, h2⟩ := (permErr_zero_iff zs).1 hp
  constructor
  · intro hx
    have := h1 x hx
    omega
  · rintro ⟨h3, h4⟩
    have := perm_all_mem hp (j := x.toNat) (by omega)
    rwa [Int.toNat_of_nonneg h3] at this
def cmpI (x y : Int) : Int := if x < y then -1 else if y < x then 1 else 0
def orI : List Int → Int
  | [] => 0
  | z :: zs => if z = 0 then orI zs else z
def restI (rk : List Int) (n len : Nat) (i : Nat) : Int := if i + len ≤ n then gi rk (i + len) else 0
def cmpR (rk : List Int) (n len : Nat) (x y : Nat) : Int := orI [cmpI (gi rk x) (gi rk y), cmpI (restI rk n len x) (restI rk n len y)]
theorem cmpR_neg (rk : List Int) (n len x y : Nat) : cmpR rk n len x y < 0 ↔ gi rk x < gi rk y ∨ gi rk x = gi rk y ∧ restI rk n len x < restI rk n len y := by
  simp only [cmpR, orI, cmpI]
  repeat' split
  all_goals omega
theorem cmpR_zero (rk : List Int) (n len x y : Nat) : cmpR rk n len x y = 0 ↔ gi rk x = gi rk y ∧ restI rk n len x = restI rk n len y := by
  simp only [cmpR, orI, cmpI]
  repeat' split
  all_goals omega
def key (bs : List UInt8) (i t : Nat) : Int := if i + t < bs.length then gb bs (i + t) + 1 else 0
theorem key_shift (bs : List UInt8) (i a t : Nat) : key bs i (a + t) = key bs (i + a) t := by unfold key; rw [Nat.add_assoc]
theorem key_far (bs : List UInt8) (i t : Nat) (h : bs.length ≤ i) : key bs i t = 0 := by unfold key; rw [if_neg (by omega)]
theorem key_nonneg (bs : List UInt8) (i t : Nat) : 0 ≤ key bs i t := by unfold key; have := gb_lo bs (i + t); split <;> omega
theorem key_pos (bs : List UInt8) (i t : Nat) (h : i + t < bs.length) : 0 < key bs i t := by unfold key; have := gb_lo bs (i + t); rw [if_pos h]; omega
def LT (bs : List UInt8) (l i j : Nat) : Prop := ∃ k, k < l ∧ (∀ t, t < k → key bs i t = key bs j t) ∧ key bs i k < key bs j k
def EQ (bs : List UInt8) (l i j : Nat) : Prop := ∀ t, t < l → key bs i t = key bs j t
theorem tri (bs : List UInt8) (i j : Nat) : ∀ l, LT bs l i j ∨ EQ bs l i j ∨ LT bs l j i
  | 0 => .inr (.inl fun t h => absurd h (by omega))
  | l + 1 => by
    rcases tri bs i j l with ⟨k, h1, h2⟩ | h | ⟨k, h1, h2⟩
    · exact .inl ⟨k, by omega, h2⟩
    · rcases Int.lt_trichotomy (key bs i l) (key bs j l) with h' | h' | h'
      · exact .inl ⟨l, by omega, h, h'⟩
      · refine .inr (.inl fun t ht => ?_)
        rcases Nat.lt_succ_iff_lt_or_eq.1 ht with h1 | h1
        · exact h t h1
        · subst h1; exact h'
      · exact .inr (.inr ⟨l, by omega, fun t ht => (h t ht).symm, h'⟩)
    · exact .inr (.inr ⟨k, by omega, h2⟩)
theorem LT.not_EQ {bs : List UInt8} {l i j : Nat} (h : LT bs l i j) : ¬ EQ bs l i j := fun e => by
  obtain ⟨k, h1, _, h3⟩ := h
  have := e k h1
  omega
theorem LT.asymm {bs : List UInt8} {l i j : Nat} (h : LT bs l i j) : ¬ LT bs l j i := fun h' => by
  obtain ⟨k, h1, h2, h3⟩ := h
  obtain ⟨k', h1', h2', h3'⟩ := h'
  rcases Nat.lt_trichotomy k k' with e | e | e
  · have := h2' k e; omega
  · subst e; omega
  · have := h2 k' e; omega
theorem EQ.symm {bs : List UInt8} {l i j : Nat} (h : EQ bs l i j) : EQ bs l j i := fun t ht => (h t ht).symm
theorem EQ_double {bs : List UInt8} {a b i j : Nat} : EQ bs (a + b) i j ↔ EQ bs a i j ∧ EQ bs b (i + a) (j + a) := by
  constructor
  · intro h
    exact ⟨fun t ht => h t (by omega), fun t ht => by rw [← key_shift, ← key_shift]; exact h _ (by omega)⟩
  · rintro ⟨h1, h2⟩ t ht
    rcases Nat.lt_or_ge t a with h | h
    · exact h1 t h
    · have := h2 (t - a) (by omega)
      rw [← key_shift, ← key_shift] at this
      rwa [show a + (t - a) = t by omega] at this
theorem LT_double {bs : List UInt8} {a b i j : Nat} : LT bs (a + b) i j ↔ LT bs a i j ∨ EQ bs a i j ∧ LT bs b (i + a) (j + a) := by
  constructor
  · rintro ⟨k, h1, h2, h3⟩
    rcases Nat.lt_or_ge k a with h | h
    · exact .inl ⟨k, h, h2, h3⟩
    · refine .inr ⟨fun t ht => h2 t (by omega), k - a, by omega, fun t ht => ?_, ?_⟩
      · rw [← key_shift, ← key_shift]; exact h2 _ (by omega)
      · rw [← key_shift, ← key_shift, show a + (k - a) = k by omega]; exact h3
  · rintro (⟨k, h1, h2, h3⟩ | ⟨h0, k, h1, h2, h3⟩)
    · exact ⟨k, by omega, h2, h3⟩
    · refine ⟨a + k, by omega, fun t ht => ?_, by rw [key_shift, key_shift]; exact h3⟩
      rcases Nat.lt_or_ge t a with h | h
      · exact h0 t h
      · have := h2 (t - a) (by omega)
        rw [← key_shift, ← key_shift, show a + (t - a) = t by omega] at this
        exact this
theorem key_min (bs : List UInt8) (i t : Nat) : key bs (min i bs.length) t = key bs i t := by
  rcases Nat.le_total i bs.length with h | h
  · rw [Nat.min_eq_left h]
  · rw [Nat.min_eq_right h, key_far _ _ _ (Nat.le_refl _), key_far _ _ _ h]
structure Stage (bs : List UInt8) (l : Nat) (rk : List Int) : Prop where
  size : rk.length = bs.length + 1
  lt : ∀ i j, i ≤ bs.length → j ≤ bs.length → (gi rk i < gi rk j ↔ LT bs l i j)
  last : gi rk bs.length = 0
theorem Stage.eq {bs : List UInt8} {l : Nat} {rk : List Int} (h : Stage bs l rk) {i j : Nat} (hi : i ≤ bs.length) (hj : j ≤ bs.length) : gi rk i = gi rk j ↔ EQ bs l i j := by
  have h1 := h.lt i j hi hj
  have h2 := h.lt j i hj hi
  rcases tri bs i j l with h3 | h3 | h3
  · have := h1.2 h3
    exact ⟨fun e => by omega, fun e => absurd e h3.not_EQ⟩
  · refine ⟨fun _ => h3, fun _ => ?_⟩
    rcases Int.lt_trichotomy (gi rk i) (gi rk j) with h' | h' | h'
    · exact absurd h3 (h1.1 h').not_EQ
    · exact h'
    · exact absurd h3.symm (h2.1 h').not_EQ
  · have := h2.2 h3
    exact ⟨fun e => by omega, fun e => absurd e.symm h3.not_EQ⟩
theorem Stage.rest {bs : List UInt8} {l : Nat} {rk : List Int} (h : Stage bs l rk) (len i : Nat) : restI rk bs.length len i = gi rk (min (i + len) bs.length) := by
  unfold restI
  by_cases hi : i + len ≤ bs.length
  · rw [if_pos hi, Nat.min_eq_left hi]
  · rw [if_neg hi, Nat.min_eq_right (by omega), h.last]
theorem EQ_min {bs : List UInt8} {l i j : Nat} : EQ bs l (min i bs.length) (min j bs.length) ↔ EQ bs l i j := by
  unfold EQ; simp only [key_min]
theorem LT_min {bs : List UInt8} {l i j : Nat} : LT bs l (min i bs.length) (min j bs.length) ↔ LT bs l i j := by
  unfold LT; simp only [key_min]
theorem Stage.cmp {bs : List UInt8} {l : Nat} {rk : List Int} (h : Stage bs l rk) {i j : Nat} (hi : i ≤ bs.length) (hj : j ≤ bs.length) : cmpR rk bs.length l i j < 0 ↔ LT bs (l + l) i j := by
  rw [cmpR_neg, h.rest, h.rest, h.lt i j hi hj, h.eq hi hj, h.lt _ _ (Nat.min_le_right _ _) (Nat.min_le_right _ _), LT_min, LT_double]
theorem Stage.cmp0 {bs : List UInt8} {l : Nat} {rk : List Int} (h : Stage bs l rk) {i j : Nat} (hi : i ≤ bs.length) (hj : j ≤ bs.length) : cmpR rk bs.length l i j = 0 ↔ EQ bs (l + l) i j := by
  rw [cmpR_zero, h.rest, h.rest, h.eq hi hj, h.eq (Nat.min_le_right _ _) (Nat.min_le_right _ _), EQ_min, EQ_double]
def rank0 (bs : List UInt8) (k : Nat) : List Int := (List.range (bs.length + 1)).map fun i : Nat => if i < k then gb bs i + 1 else 0
theorem rank0_length (bs : List UInt8) (k : Nat) : (rank0 bs k).length = bs.length + 1 := by simp [rank0]
theorem rank0_zero (bs : List UInt8) : rank0 bs 0 = List.replicate (bs.length + 1) 0 := by
  apply List.ext_getElem <;> simp [rank0]
theorem gi_rank0 (bs : List UInt8) (k i : Nat) (hi : i ≤ bs.length) : gi (rank0 bs k) i = if i < k then gb bs i + 1 else 0 := by
  simp [gi, rank0, List.getD, show i < bs.length + 1 by omega]
theorem rank0_next (bs : List UInt8) (k : Nat) (hk : k < bs.length) : (rank0 bs k).set k (gb bs k + 1) = rank0 bs (k + 1) := by
  apply List.ext_getElem
  · simp [rank0]
  intro i h1 h2
  rw [List.getElem_set]
  simp only [rank0, List.getElem_map, List.getElem_range]
  by_cases e : k = i
  · subst e; rw [if_pos rfl, if_pos (by omega)]
  · rw [if_neg e]
    by_cases h : i < k
    · rw [if_pos h, if_pos (by omega)]
    · rw [if_neg h, if_neg (by omega)]
theorem stage1 (bs : List UInt8) : Stage bs 1 (rank0 bs bs.length) where
  size := rank0_length _ _
  last := by rw [gi_rank0 _ _ _ (Nat.le_refl _), if_neg (by omega)]
  lt i j hi hj := by
    have e : ∀ i, i ≤ bs.length → gi (rank0 bs bs.length) i = key bs i 0 := fun i hi => by
      rw [gi_rank0 _ _ _ hi]; unfold key; rw [Nat.add_zero]
    rw [e i hi, e j hj]
    constructor
    · intro h; exact ⟨0, by omega, fun t ht => absurd ht (by omega), h⟩
    · rintro ⟨k, h1, _, h3⟩
      obtain rfl : k = 0 := by omega
      exact h3
def pn (ps : List Nat) (k : Nat) : Nat := ps.getD k 0
theorem pn_get {ps : List Nat} {k : Nat} (h : k < ps.length) : pn ps k = ps[k] := by simp [pn, List.getD, h]
def nextTo (ne : Nat → Nat → Bool) (ps : List Nat) (m : Nat) : Nat → List Int
  | 0 => List.replicate m 0
  | k + 1 => (nextTo ne ps m k).set (pn ps (k + 1)) (gi (nextTo ne ps m k) (pn ps k) + if ne (pn ps k) (pn ps (k + 1)) then 1 else 0)
theorem nextTo_length (ne : Nat → Nat → Bool) (ps : List Nat) (m : Nat) : ∀ k, (nextTo ne ps m k).length = m
  | 0 => by simp [nextTo]
  | k + 1 => by simp [nextTo, nextTo_length ne ps m k]
def cnt (ne : Nat → Nat → Bool) (ps : List Nat) : Nat → Int
  | 0 => 0
  | k + 1 => cnt ne ps k + if ne (pn ps k) (pn ps (k + 1)) then 1 else 0
theorem gi_set_same {zs : List Int} {k : Nat} {v : Int} (h : k < zs.length) : gi (zs.set k v) k = v := by simp [gi, List.getD, h]
theorem gi_set_ne {zs : List Int} {k j : Nat} {v : Int} (h : k ≠ j) : gi (zs.set k v) j = gi zs j := by simp [gi, List.getD, List.getElem?_set_ne h]
theorem gi_nextTo {ne : Nat → Nat → Bool} {ps : List Nat} (hn : ps.Nodup) (hr : ∀ p ∈ ps, p < ps.length) : ∀ k, k < ps.length → ∀ t, t ≤ k → gi (nextTo ne ps ps.length k) (pn ps t) = cnt ne ps t
  | 0, hk, t, ht => by
    obtain rfl : t = 0 := by omega
    have : pn ps 0 < ps.length := hr _ (by rw [pn_get hk]; exact List.getElem_mem hk)
    simp [nextTo, cnt, gi, List.getD, this]
  | k + 1, hk, t, ht => by
    have hlt : pn ps (k + 1) < ps.length := hr _ (by rw [pn_get hk]; exact List.getElem_mem hk)
    rw [nextTo]
    rcases Nat.lt_or_ge t (k + 1) with h | h
    · rw [gi_set_ne, gi_nextTo hn hr k (by omega) t (by omega)]
      rw [pn_get hk, pn_get (by omega : t < ps.length)]
      intro e
      have := (List.nodup_iff_pairwise_ne.1 hn)
      exact List.pairwise_iff_getElem.1 this t (k + 1) (by omega) hk h e.symm
    · obtain rfl : t = k + 1 := by omega
      rw [gi_set_same (by rw [nextTo_length]; exact hlt), gi_nextTo hn hr k (by omega) k (Nat.le_refl _)]
      rfl
theorem cnt_le (ne : Nat → Nat → Bool) (ps : List Nat) : ∀ k, 0 ≤ cnt ne ps k ∧ cnt ne ps k ≤ k
  | 0 => ⟨Int.le_refl _, Int.le_refl _⟩
  | k + 1 => by
    have := cnt_le ne ps k
    rw [cnt]
    split <;> omega
theorem cnt_full {ne : Nat → Nat → Bool} {ps : List Nat} : ∀ {k : Nat}, cnt ne ps k = k → ∀ t, t < k → ne (pn ps t) (pn ps (t + 1)) = true
  | 0, _, t, ht => absurd ht (by omega)
  | k + 1, h, t, ht => by
    rw [cnt] at h
    have h1 := cnt_le ne ps k
    cases hb : ne (pn ps k) (pn ps (k + 1)) with
    | false => rw [hb] at h; simp at h; omega
    | true =>
      rw [hb] at h
      simp at h
      rcases Nat.lt_succ_iff_lt_or_eq.1 ht with h2 | h2
      · exact cnt_full (by omega) t h2
      · subst h2; exact hb
theorem cnt_all {ne : Nat → Nat → Bool} {ps : List Nat} : ∀ {k : Nat}, (∀ t, t < k → ne (pn ps t) (pn ps (t + 1)) = true) → cnt ne ps k = k
  | 0, _ => rfl
  | k + 1, h => by
    rw [cnt, h k (by omega), cnt_all (fun t ht => h t (by omega))]
    simp
section
variable {bs : List UInt8} {l : Nat} {rk : List Int} {ps : List Nat}
structure Sorted (bs : List UInt8) (l : Nat) (ps : List Nat) : Prop where
  size : ps.length = bs.length + 1
  nodup : ps.Nodup
  range : ∀ p ∈ ps, p < ps.length
  sorted : ∀ s t, s < t → t < ps.length → ¬ LT bs (l + l) (pn ps t) (pn ps s)
def neR (rk : List Int) (n l : Nat) (x y : Nat) : Bool := decide (cmpR rk n l x y ≠ 0)
theorem pn_le (S : Sorted bs l ps) {t : Nat} (h : t < ps.length) : pn ps t ≤ bs.length := by
  have := S.range (pn ps t) (by rw [pn_get h]; exact List.getElem_mem h)
  have := S.size
  omega
theorem ne_step (H : Stage bs l rk) (S : Sorted bs l ps) {t : Nat} (h : t + 1 < ps.length) : neR rk bs.length l (pn ps t) (pn ps (t + 1)) = true ↔ LT bs (l + l) (pn ps t) (pn ps (t + 1)) := by
  unfold neR
  rw [decide_eq_true_iff, Ne, H.cmp0 (pn_le S (by omega)) (pn_le S h)]
  constructor
  · intro hne
    rcases tri bs (pn ps t) (pn ps (t + 1)) (l + l) with h1 | h1 | h1
    · exact h1
    · exact absurd h1 hne
    · exact absurd h1 (S.sorted t (t + 1) (by omega) h)
  · intro h1; exact h1.not_EQ
theorem LT_EQ {i j k m : Nat} (h : LT bs m i j) (e : EQ bs m j k) : LT bs m i k := by
  obtain ⟨a, h1, h2, h3⟩ := h
  exact ⟨a, h1, fun t ht => (h2 t ht).trans (e t (by omega)), by rw [← e a h1]; exact h3⟩
theorem EQ_LT {i j k m : Nat} (e : EQ bs m i j) (h : LT bs m j k) : LT bs m i k := by
  obtain ⟨a, h1, h2, h3⟩ := h
  exact ⟨a, h1, fun t ht => (e t (by omega)).trans (h2 t ht), by rw [e a h1]; exact h3⟩
theorem LT_trans {i j k m : Nat} (h : LT bs m i j) (h' : LT bs m j k) : LT bs m i k := by
  obtain ⟨a, h1, h2, h3⟩ := h
  obtain ⟨b, g1, g2, g3⟩ := h'
  rcases Nat.lt_trichotomy a b with e | e | e
  · exact ⟨a, h1, fun t ht => (h2 t ht).trans (g2 t (by omega)), by rw [← g2 a e]; exact h3⟩
  · subst e; exact ⟨a, h1, fun t ht => (h2 t ht).trans (g2 t ht), by omega⟩
  · exact ⟨b, g1, fun t ht => (h2 t (by omega)).trans (g2 t ht), by rw [h2 b e]; exact g3⟩
theorem cnt_mono (H : Stage bs l rk) (S : Sorted bs l ps) : ∀ s, s < ps.length → ∀ t, t ≤ s → cnt (neR rk bs.length l) ps t ≤ cnt (neR rk bs.length l) ps s ∧ (cnt (neR rk bs.length l) ps t < cnt (neR rk bs.length l) ps s ↔ LT bs (l + l) (pn ps t) (pn ps s))
  | 0, hs, t, ht => by
    obtain rfl : t = 0 := by omega
    exact ⟨Int.le_refl _, fun h => absurd h (by omega), fun h => absurd h h.asymm⟩
  | s + 1, hs, t, ht => by
    rcases Nat.lt_or_ge t (s + 1) with h | h
    · have ih := cnt_mono H S s (by omega) t (by omega)
      have st := ne_step H S hs
      rw [cnt]
      by_cases hb : neR rk bs.length l (pn ps s) (pn ps (s + 1)) = true
      · rw [if_pos hb]
        have h1 := st.1 hb
        refine ⟨by omega, fun _ => ?_, fun _ => by omega⟩
        rcases tri bs (pn ps t) (pn ps s) (l + l) with h2 | h2 | h2
        · exact LT_trans h2 h1
        · exact EQ_LT h2 h1
        · rcases Nat.lt_or_ge t s with h3 | h3
          · exact absurd h2 (S.sorted t s h3 (by omega))
          · obtain rfl : t = s := by omega
            exact h1
      · rw [if_neg hb, Int.add_zero]
        have h1 : EQ bs (l + l) (pn ps s) (pn ps (s + 1)) := by
          rcases tri bs (pn ps s) (pn ps (s + 1)) (l + l) with h2 | h2 | h2
          · exact absurd (st.2 h2) hb
          · exact h2
          · exact absurd h2 (S.sorted s (s + 1) (by omega) hs)
        refine ⟨ih.1, ih.2.trans ⟨fun h2 => LT_EQ h2 h1, fun h2 => LT_EQ h2 h1.symm⟩⟩
    · obtain rfl : t = s + 1 := by omega
      exact ⟨Int.le_refl _, fun h => absurd h (by omega), fun h => absurd h h.asymm⟩
theorem cnt_iff (H : Stage bs l rk) (S : Sorted bs l ps) {s t : Nat} (hs : s < ps.length) (ht : t < ps.length) : cnt (neR rk bs.length l) ps t < cnt (neR rk bs.length l) ps s ↔ LT bs (l + l) (pn ps t) (pn ps s) := by
  rcases Nat.lt_or_ge s t with h | h
  · have h1 := (cnt_mono H S t ht s (by omega)).1
    exact ⟨fun h2 => absurd h2 (by omega), fun h2 => absurd h2 (S.sorted s t h ht)⟩
  · exact (cnt_mono H S s hs t h).2
theorem place_of (S : Sorted bs l ps) {i : Nat} (hi : i ≤ bs.length) : ∃ t, t < ps.length ∧ pn ps t = i := by
  have hm : i ∈ ps := by
    rcases Classical.em (i ∈ ps) with hm | hm
    · exact hm
    · have h1 := nodup_le ps.length (i :: ps) (List.nodup_cons.2 ⟨hm, S.nodup⟩) (fun x hx => by
        rcases List.mem_cons.1 hx with rfl | hx
        · have := S.size; omega
        · exact S.range x hx)
      simp at h1
      omega
  obtain ⟨t, ht, e⟩ := List.mem_iff_getElem.1 hm
  exact ⟨t, ht, by rw [pn_get ht]; exact e⟩
theorem first_place (S : Sorted bs l ps) (hl : 0 < l) : pn ps 0 = bs.length := by
  obtain ⟨t, ht, e⟩ := place_of S (Nat.le_refl bs.length)
  rcases Nat.eq_zero_or_pos t with h | h
  · subst h; exact e
  · have h0 : pn ps 0 ≤ bs.length := pn_le S (by omega)
    have hs := S.sorted 0 t h ht
    rw [e] at hs
    rcases Nat.lt_or_ge (pn ps 0) bs.length with h1 | h1
    · exact absurd ⟨0, by omega, fun _ h => absurd h (by omega), by rw [key_far _ _ _ (Nat.le_refl _)]; exact key_pos _ _ _ (by omega)⟩ hs
    · omega
theorem stage_next (H : Stage bs l rk) (S : Sorted bs l ps) (hl : 0 < l) : Stage bs (l + l) (nextTo (neR rk bs.length l) ps (bs.length + 1) bs.length) := by
  have hg : ∀ t, t < ps.length → gi (nextTo (neR rk bs.length l) ps (bs.length + 1) bs.length) (pn ps t) = cnt (neR rk bs.length l) ps t := fun t ht => by
    have := gi_nextTo (ne := neR rk bs.length l) S.nodup S.range bs.length (by have := S.size; omega) t (by have := S.size; omega)
    rwa [S.size] at this
  refine ⟨nextTo_length _ _ _ _, fun i j hi hj => ?_, ?_⟩
  · obtain ⟨s, hs, rfl⟩ := place_of S hi
    obtain ⟨t, ht, rfl⟩ := place_of S hj
    rw [hg s hs, hg t ht]
    exact cnt_iff H S ht hs
  · have := hg 0 (by have := S.size; omega)
    rw [first_place S hl] at this
    exact this
theorem long_ne {i j : Nat} (hi : i ≤ bs.length) (hj : j ≤ bs.length) (hne : i ≠ j) (hl : bs.length < l + l) : ¬ EQ bs (l + l) i j := by
  have key1 : ∀ i j, i < j → j ≤ bs.length → ¬ EQ bs (l + l) i j := fun i j h hj e => by
    have := e (bs.length - j) (by omega)
    have h1 := key_pos bs i (bs.length - j) (by omega)
    have h2 : key bs j (bs.length - j) = 0 := by unfold key; rw [if_neg (by omega)]
    omega
  rcases Nat.lt_or_gt_of_ne hne with h | h
  · exact key1 i j h hj
  · exact fun e => key1 j i h hi e.symm
theorem full_of_long (H : Stage bs l rk) (S : Sorted bs l ps) (hl : bs.length < l + l) : cnt (neR rk bs.length l) ps bs.length = bs.length := by
  refine cnt_all fun t ht => ?_
  have hlt : t + 1 < ps.length := by have := S.size; omega
  rw [ne_step H S hlt]
  rcases tri bs (pn ps t) (pn ps (t + 1)) (l + l) with h | h | h
  · exact h
  · refine absurd h (long_ne (pn_le S (by omega)) (pn_le S hlt) (fun e => ?_) hl)
    rw [pn_get hlt, pn_get (by omega : t < ps.length)] at e
    exact List.pairwise_iff_getElem.1 (List.nodup_iff_pairwise_ne.1 S.nodup) t (t + 1) (by omega) hlt (by omega) e
  · exact absurd h (S.sorted t (t + 1) (by omega) hlt)
theorem gi_last (H : Stage bs l rk) (S : Sorted bs l ps) : gi (nextTo (neR rk bs.length l) ps (bs.length + 1) bs.length) (pn ps bs.length) = cnt (neR rk bs.length l) ps bs.length := by
  have := gi_nextTo (ne := neR rk bs.length l) S.nodup S.range bs.length (by have := S.size; omega) bs.length (Nat.le_refl _)
  rwa [S.size] at this
theorem less_of_LT : ∀ {m : Nat} {i j : Nat}, LT bs m i j → less (bs.drop i) (bs.drop j) = true
  | 0, i, j, ⟨k, h, _⟩ => absurd h (by omega)
  | m + 1, i, j, ⟨k, h1, h2, h3⟩ => by
    have hj : j < bs.length := by
      rcases Nat.lt_or_ge j bs.length with h | h
      · exact h
      · have := key_far bs j k h; have := key_nonneg bs i k; omega
    rcases Nat.lt_or_ge i bs.length with hi | hi
    · rw [List.drop_eq_getElem_cons hi, List.drop_eq_getElem_cons hj, less_cons]
      have ki : key bs i 0 = bs[i].toNat + 1 := by unfold key; rw [Nat.add_zero, if_pos hi]; simp [gb, List.getD, hi]
      have kj : key bs j 0 = bs[j].toNat + 1 := by unfold key; rw [Nat.add_zero, if_pos hj]; simp [gb, List.getD, hj]
      cases k with
      | zero => exact .inl (by omega)
      | succ k =>
        have h0 := h2 0 (by omega)
        refine .inr ⟨UInt8.toNat_inj.1 (by omega), less_of_LT (m := m) ⟨k, by omega, fun t ht => ?_, ?_⟩⟩
        · rw [← key_shift, ← key_shift, Nat.add_comm 1 t]; exact h2 (t + 1) (by omega)
        · rw [← key_shift, ← key_shift, Nat.add_comm 1 k]; exact h3
    · rw [List.drop_of_length_le hi, List.drop_eq_getElem_cons hj]
      rfl
theorem places_done (H : Stage bs l rk) (S : Sorted bs l ps) (hf : cnt (neR rk bs.length l) ps bs.length = bs.length) : ps.map (fun p : Nat => (p : Int)) = sortL bs := by
  have hl : (ps.map (fun p : Nat => (p : Int))).length = bs.length + 1 := by simp [S.size]
  apply order_unique hl
  · rw [permErr_zero_iff, hl]
    refine ⟨fun z hz => ?_, ?_⟩
    · obtain ⟨p, hp, rfl⟩ := List.mem_map.1 hz
      have := S.range p hp
      have := S.size
      omega
    · rw [List.nodup_iff_pairwise_ne, List.pairwise_map]
      exact (List.nodup_iff_pairwise_ne.1 S.nodup).imp fun h e => h (by omega)
  · refine pairwise_of_adj (R := before bs) (fun _ _ _ h h' => before_trans h h') (fun i hi => ?_)
    have hi' : i + 1 < ps.length := by simpa using hi
    have h1 := (ne_step H S hi').1 (cnt_full hf i (by have := S.size; omega))
    have h2 := less_of_LT h1
    rw [pn_get hi', pn_get (by omega : i < ps.length)] at h2
    simpa [before, sfx] using h2
end
end Go.Proofs.YtckkmafppfcecaaGreatDoor.Bwt
namespace Go.Proofs.YtckkmafppfcecaaGreatDoor
open Go.RowKit Go.Proofs
set_option linter.unusedVariables false
set_option linter.unusedSimpArgs false
theorem map_ok {α β : Type} {x : Except Int α} {f : α → β} {r : β} (h : x.map f = .ok r) : ∃ y, x = .ok y ∧ r = f y := by
  cases x with
  | error e => cases h
  | ok y => exact ⟨y, rfl, by injection h with h; exact h.symm⟩
theorem expR_len {bs : List UInt8} : ∀ (d i m : Nat) (r : List UInt8), bs.length - i ≤ d → m ≤ 65536 → expR bs i m = .ok r → m + r.length ≤ 65536 := by
  intro d
  induction d with
  | zero =>
    intro i m r hd hm h
    rw [expR_end (by omega)] at h
    injection h with h
    subst h
    exact hm
  | succ d ih =>
    intro i m r hd hm h
    by_cases hi : i < bs.length
    · by_cases h1 : (bA bs i).toNat < 2
      · rw [expR_dig hi h1] at h
        split at h
        · cases h
        · obtain ⟨y, hy, rfl⟩ := map_ok h
          have := ih _ _ y (by omega) (by omega) hy
          rw [List.length_append, List.length_replicate]
          omega
      · by_cases h2 : (bA bs i).toNat < 255
        · rw [expR_byte hi h1 h2] at h
          split at h
          · cases h
          · obtain ⟨y, hy, rfl⟩ := map_ok h
            have := ih _ _ y (by omega) (by omega) hy
            rw [List.length_cons]
            omega
        · by_cases h3 : i + 1 = bs.length
          · rw [expR_torn h3 h2] at h; cases h
          · by_cases h4 : 1 < (bA bs (i + 1)).toNat
            · rw [expR_form (by omega) h2 h4] at h; cases h
            · rw [expR_esc (by omega) h2 h4] at h
              split at h
              · cases h
              · obtain ⟨y, hy, rfl⟩ := map_ok h
                have := ih _ _ y (by omega) (by omega) hy
                rw [List.length_cons]
                omega
    · rw [expR_end (by omega)] at h
      injection h with h
      subst h
      exact hm
theorem expandP_length (bs : List UInt8) : (expandP bs).1.length ≤ 65536 := by
  unfold expandP
  split
  · exact Nat.zero_le _
  · cases h : expR bs 0 0 with
    | error e => exact Nat.zero_le _
    | ok r =>
      have := expR_len _ 0 0 r (Nat.le_refl _) (by omega) h
      show r.length ≤ _
      omega
theorem copyN_length (d : Nat) : ∀ (k : Nat) (out : List UInt8), (copyN d k out).length = out.length + k
  | 0, out => rfl
  | k + 1, out => by rw [copyN, copyN_length d k]; simp; omega
theorem copyN_next (d : Nat) : ∀ (k : Nat) (out : List UInt8), copyN d (k + 1) out = copyN d k out ++ [bA (copyN d k out) ((copyN d k out).length - d)]
  | 0, out => rfl
  | k + 1, out => by
    rw [copyN, copyN_next d k (out ++ [bA out (out.length - d)])]
    rfl
theorem chkT_zero {t : Tok} {m : Nat} (h : chkT t m = 0) : rightT t = true ∧ t.dst ≤ m ∧ m + tsz t ≤ 65536 := by
  unfold chkT at h
  split at h
  · cases h
  · rename_i h1
    split at h
    · cases h
    · split at h
      · cases h
      · exact ⟨by simpa using h1, by omega, by omega⟩
theorem rightT_copy {t : Tok} (h : rightT t = true) (h0 : t.len ≠ 0) : t.len ≤ 255 ∧ 1 ≤ t.dst ∧ t.dst ≤ 4096 := by
  unfold rightT at h
  rw [if_neg h0] at h
  obtain ⟨-, -, h1, h2, h3⟩ := of_decide_eq_true h
  exact ⟨h1, h2, h3⟩
def oneT (t : Tok) (out : List UInt8) : List UInt8 := if t.len = 0 then out ++ [t.byt] else copyN t.dst t.len out
theorem oneT_length (t : Tok) (out : List UInt8) : (oneT t out).length = out.length + tsz t := by
  unfold oneT tsz
  split
  · simp; omega
  · rw [copyN_length]; omega
theorem expF_cons (t : Tok) (r : List Tok) (out : List UInt8) : expF (t :: r) out = expF r (oneT t out) := rfl
theorem expF_len : ∀ (l : List Tok) (out : List UInt8), chkF l out.length = 0 → out.length ≤ 65536 → (expF l out).length ≤ 65536
  | [], out, _, h => h
  | t :: r, out, hc, h => by
    rw [chkF] at hc
    split at hc
    · rename_i h0
      obtain ⟨-, -, h3⟩ := chkT_zero h0
      rw [expF_cons]
      refine expF_len r _ ?_ ?_
      · rw [oneT_length]; exact hc
      · rw [oneT_length]; exact h3
    · rename_i h0; exact absurd hc h0
theorem expandT_length (l : List Tok) : (expandT l).1.length ≤ 65536 := by
  unfold expandT
  split
  · rename_i h
    unfold chkL at h
    split at h
    · cases h
    · exact expF_len l [] h (Nat.zero_le _)
  · exact Nat.zero_le _
theorem lzI_length (bs : List UInt8) : (lzI bs).1.length ≤ 65536 := by
  unfold lzI
  cases decT bs with
  | error e => exact Nat.zero_le _
  | ok l => exact expandT_length l
theorem lzF_err (bs : List UInt8) : (lzF bs).2 = 0 ∨ (lzF bs).2 = 5 := by
  unfold lzF
  split
  · exact .inr rfl
  · rename_i h
    unfold encT
    rw [if_pos (opt_check (by omega))]
    split
    · exact .inr rfl
    · exact .inl rfl
theorem runsP_err (bs : List UInt8) : (runsP bs).2 = 0 ∨ (runsP bs).2 = 5 := by
  unfold runsP
  split
  · exact .inr rfl
  · split
    · exact .inr rfl
    · exact .inl rfl
end Go.Proofs.YtckkmafppfcecaaGreatDoor
