/- Plain laws: the order of the suffixes of a byte string; there is one. No program in sight. -/
import Derived.Test.YtoodfmilleodaaaSp
namespace Go.Proofs.Ytoodfmilleodaaa
set_option linter.unusedVariables false

theorem less_cons (a b : UInt8) (x y : List UInt8) : less (a :: x) (b :: y) = true ↔ a.toNat < b.toNat ∨ a = b ∧ less x y = true := by
  show (decide (a < b) || (a == b && Op.bytesLess x y)) = true ↔ _
  simp [UInt8.lt_iff_toNat_lt, less]
theorem less_nil (x : List UInt8) : less x [] = false := by cases x <;> rfl
theorem nil_less (b : UInt8) (y : List UInt8) : less [] (b :: y) = true := rfl

theorem less_irrefl : ∀ x : List UInt8, less x x = false
  | [] => rfl
  | a :: x => by
    have := less_irrefl x
    cases h : less (a :: x) (a :: x) with
    | false => rfl
    | true =>
      rcases (less_cons _ _ _ _).1 h with h | ⟨_, h⟩
      · omega
      · rw [this] at h; cases h
theorem less_trans : ∀ {x y z : List UInt8}, less x y = true → less y z = true → less x z = true
  | [], [], _, h, _ => by rw [less_nil] at h; cases h
  | [], _ :: _, [], _, h => by rw [less_nil] at h; cases h
  | [], _ :: _, _ :: _, _, _ => rfl
  | _ :: _, [], _, h, _ => by rw [less_nil] at h; cases h
  | _ :: _, _ :: _, [], _, h => by rw [less_nil] at h; cases h
  | a :: x, b :: y, c :: z, h1, h2 => by
    rw [less_cons] at h1 h2 ⊢
    rcases h1 with h1 | ⟨rfl, h1⟩
    · rcases h2 with h2 | ⟨rfl, h2⟩
      · exact .inl (by omega)
      · exact .inl h1
    · rcases h2 with h2 | ⟨rfl, h2⟩
      · exact .inl h2
      · exact .inr ⟨rfl, less_trans h1 h2⟩
theorem less_total : ∀ {x y : List UInt8}, x ≠ y → less x y = true ∨ less y x = true
  | [], [], h => absurd rfl h
  | [], _ :: _, _ => .inl rfl
  | _ :: _, [], _ => .inr rfl
  | a :: x, b :: y, h => by
    rw [less_cons, less_cons]
    by_cases e : a = b
    · subst e
      rcases less_total (x := x) (y := y) (fun e => h (by rw [e])) with h | h
      · exact .inl (.inr ⟨rfl, h⟩)
      · exact .inr (.inr ⟨rfl, h⟩)
    · have : a.toNat ≠ b.toNat := fun h => e (UInt8.toNat_inj.1 h)
      rcases Nat.lt_or_gt_of_ne this with h | h
      · exact .inl (.inl h)
      · exact .inr (.inl h)
theorem less_asymm {x y : List UInt8} (h : less x y = true) : less y x = false := by
  cases h' : less y x with
  | false => rfl
  | true => have := less_trans h h'; rw [less_irrefl] at this; cases this

/-- one place before another, by their suffixes. -/
def before (bs : List UInt8) (a b : Int) : Prop := less (sfx bs a) (sfx bs b) = true
theorem sfx_ne {bs : List UInt8} {a b : Int} (ha : 0 ≤ a) (ha' : a ≤ bs.length) (hb : 0 ≤ b) (hb' : b ≤ bs.length) (h : a ≠ b) : sfx bs a ≠ sfx bs b := by
  intro e
  have := congrArg List.length e
  simp [sfx] at this
  omega
theorem before_total {bs : List UInt8} {a b : Int} (ha : 0 ≤ a) (ha' : a ≤ bs.length) (hb : 0 ≤ b) (hb' : b ≤ bs.length) (h : a ≠ b) : before bs a b ∨ before bs b a := less_total (sfx_ne ha ha' hb hb' h)
theorem before_trans {bs : List UInt8} {a b c : Int} (h1 : before bs a b) (h2 : before bs b c) : before bs a c := less_trans h1 h2

/-- Two lists in one strict order with the same elements are one. -/
theorem sorted_unique {α : Type} {R : α → α → Prop} (hirr : ∀ a b, R a b → ¬ R b a) : ∀ {l l' : List α}, l.Pairwise R → l'.Pairwise R → (∀ x, x ∈ l ↔ x ∈ l') → l = l'
  | [], [], _, _, _ => rfl
  | [], b :: l', _, _, h => absurd ((h b).2 (by simp)) (by simp)
  | a :: l, [], _, _, h => absurd ((h a).1 (by simp)) (by simp)
  | a :: l, b :: l', h1, h2, h => by
    rw [List.pairwise_cons] at h1 h2
    have hab : a = b := by
      rcases List.mem_cons.1 ((h a).1 (by simp)) with e | hm
      · exact e
      · rcases List.mem_cons.1 ((h b).2 (by simp)) with e | hm'
        · exact e.symm
        · exact absurd (h2.1 a hm) (hirr _ _ (h1.1 b hm'))
    subst hab
    have hna : a ∉ l := fun hm => hirr _ _ (h1.1 a hm) (h1.1 a hm)
    have hnb : a ∉ l' := fun hm => hirr _ _ (h2.1 a hm) (h2.1 a hm)
    rw [sorted_unique hirr h1.2 h2.2 (fun x => ⟨fun hx => ?_, fun hx => ?_⟩)]
    · rcases List.mem_cons.1 ((h x).1 (by simp [hx])) with e | hm
      · subst e; exact absurd hx hna
      · exact hm
    · rcases List.mem_cons.1 ((h x).2 (by simp [hx])) with e | hm
      · subst e; exact absurd hx hnb
      · exact hm

theorem pairwise_of_adj {α : Type} {R : α → α → Prop} (ht : ∀ a b c, R a b → R b c → R a c) : ∀ {l : List α}, (∀ i (h : i + 1 < l.length), R (l[i]'(by omega)) l[i + 1]) → l.Pairwise R
  | [], _ => List.Pairwise.nil
  | [a], _ => List.pairwise_singleton R a
  | a :: b :: l, h => by
    have h1 := pairwise_of_adj ht (l := b :: l) (fun i hi => h (i + 1) (by simp at hi ⊢; omega))
    have hab : R a b := h 0 (by simp)
    refine List.pairwise_cons.2 ⟨fun x hx => ?_, h1⟩
    rcases List.mem_cons.1 hx with rfl | hx
    · exact hab
    · exact ht _ _ _ hab ((List.pairwise_cons.1 h1).1 x hx)

theorem pairwise_of_ascB {bs : List UInt8} {zs : List Int} (h : ascB bs zs = true) : zs.Pairwise (before bs) := by
  refine pairwise_of_adj (R := before bs) (fun _ _ _ h h' => before_trans h h') (fun i hi => ?_)
  have := List.all_eq_true.1 h i (by simp; omega)
  rw [gi_get (by omega), gi_get hi] at this
  exact this
theorem ascB_of_pairwise {bs : List UInt8} {zs : List Int} (h : zs.Pairwise (before bs)) : ascB bs zs = true :=
  ascB_true fun i hi => by
    rw [gi_get (by omega), gi_get hi]
    exact List.pairwise_iff_getElem.1 h i (i + 1) (by omega) hi (by omega)

theorem ahead_split (f : Int → Bool) : ∀ l : List Int, (∀ z ∈ l.take (ahead f l), f z = true) ∧ (∀ z, (l.drop (ahead f l)).head? = some z → f z = false)
  | [] => ⟨by simp, by simp⟩
  | a :: l => by
    have ih := ahead_split f l
    cases h : f a with
    | true =>
      have e : ahead f (a :: l) = ahead f l + 1 := by simp [ahead, List.takeWhile, h]
      rw [e]
      refine ⟨fun z hz => ?_, by simpa using ih.2⟩
      rw [List.take_succ_cons] at hz
      rcases List.mem_cons.1 hz with rfl | hz
      · exact h
      · exact ih.1 z hz
    | false =>
      have e : ahead f (a :: l) = 0 := by simp [ahead, List.takeWhile, h]
      rw [e]
      exact ⟨by simp, fun z hz => by simp at hz; subst hz; exact h⟩

theorem insP_sorted {bs : List UInt8} {l : List Int} {p : Int} (hl : l.Pairwise (before bs)) (hp : 0 ≤ p) (hp' : p ≤ bs.length) (hr : ∀ z ∈ l, 0 ≤ z ∧ z ≤ bs.length) (hn : p ∉ l) : (insP bs l p).Pairwise (before bs) := by
  have hs := ahead_split (fun z => less (sfx bs z) (sfx bs p)) l
  have e : l = l.take (insAt bs l p) ++ l.drop (insAt bs l p) := (List.take_append_drop _ _).symm
  have hl' := hl
  rw [e, List.pairwise_append] at hl'
  obtain ⟨h1, h2, h3⟩ := hl'
  have hlow : ∀ z ∈ l.take (insAt bs l p), before bs z p := hs.1
  have hhigh : ∀ z ∈ l.drop (insAt bs l p), before bs p z := by
    cases hd : l.drop (insAt bs l p) with
    | nil => simp
    | cons y r =>
      have hy : less (sfx bs y) (sfx bs p) = false := hs.2 y (by show (l.drop (insAt bs l p)).head? = _; rw [hd]; rfl)
      have hym : y ∈ l := List.mem_of_mem_drop (i := insAt bs l p) (by rw [hd]; simp)
      have hyb : before bs p y := by
        rcases before_total hp hp' (hr y hym).1 (hr y hym).2 (fun e => hn (e ▸ hym)) with h | h
        · exact h
        · rw [before, hy] at h; cases h
      rw [hd, List.pairwise_cons] at h2
      intro z hz
      rcases List.mem_cons.1 hz with rfl | hz
      · exact hyb
      · exact before_trans hyb (h2.1 z hz)
  unfold insP
  rw [List.append_assoc, List.pairwise_append]
  refine ⟨h1, ?_, ?_⟩
  · rw [List.singleton_append, List.pairwise_cons]
    exact ⟨hhigh, h2⟩
  · intro a ha b hb
    rw [List.singleton_append] at hb
    rcases List.mem_cons.1 hb with rfl | hb
    · exact hlow a ha
    · exact h3 a ha b hb

theorem mem_insP_iff {bs : List UInt8} {l : List Int} {p z : Int} : z ∈ insP bs l p ↔ z = p ∨ z ∈ l := by
  refine ⟨mem_insP, fun h => ?_⟩
  unfold insP
  simp only [List.mem_append, List.mem_singleton]
  rcases h with h | h
  · exact .inl (.inr h)
  · rw [← List.take_append_drop (insAt bs l p) l, List.mem_append] at h
    rcases h with h | h
    · exact .inl (.inl h)
    · exact .inr h
theorem mem_sortTo {bs : List UInt8} : ∀ {k : Nat}, k ≤ bs.length + 1 → ∀ z : Int, z ∈ sortTo bs k ↔ (bs.length : Int) < z + k ∧ z ≤ bs.length
  | 0, _, z => by simp [sortTo]
  | k + 1, hk, z => by
    rw [sortTo, mem_insP_iff, mem_sortTo (k := k) (by omega) z]
    omega
theorem sortTo_sorted (bs : List UInt8) : ∀ k, k ≤ bs.length + 1 → (sortTo bs k).Pairwise (before bs)
  | 0, _ => List.Pairwise.nil
  | k + 1, hk => by
    refine insP_sorted (sortTo_sorted bs k (by omega)) (by omega) (by omega) (sortTo_range bs k) (fun hm => ?_)
    have := (mem_sortTo (by omega) _).1 hm
    omega
theorem sortL_sorted (bs : List UInt8) : (sortL bs).Pairwise (before bs) := sortTo_sorted bs _ (Nat.le_refl _)
theorem mem_sortL {bs : List UInt8} {z : Int} : z ∈ sortL bs ↔ 0 ≤ z ∧ z ≤ bs.length := by
  unfold sortL
  rw [mem_sortTo (Nat.le_refl _)]
  omega
theorem sortL_length (bs : List UInt8) : (sortL bs).length = bs.length + 1 := sortTo_length bs _
theorem before_irr (bs : List UInt8) (a b : Int) (h : before bs a b) : ¬ before bs b a := fun h' => by
  rw [before, less_asymm h] at h'; cases h'
theorem sortL_perm (bs : List UInt8) : permErr (sortL bs) = 0 := by
  rw [permErr_zero_iff, sortL_length]
  refine ⟨fun z hz => by have := mem_sortL.1 hz; omega, ?_⟩
  refine (sortL_sorted bs).imp ?_
  intro a b h e
  subst e
  exact before_irr bs _ _ h h
/-- What has no error is the order. -/
theorem order_unique {bs : List UInt8} {zs : List Int} (hl : zs.length = bs.length + 1) (hp : permErr zs = 0) (ha : zs.Pairwise (before bs)) : zs = sortL bs := by
  refine sorted_unique (before_irr bs) ha (sortL_sorted bs) (fun x => ?_)
  rw [mem_sortL]
  obtain ⟨h1, h2⟩ := (permErr_zero_iff zs).1 hp
  constructor
  · intro hx
    have := h1 x hx
    omega
  · rintro ⟨h3, h4⟩
    have := perm_all_mem hp (j := x.toNat) (by omega)
    rwa [Int.toNat_of_nonneg h3] at this
theorem ascB_iff {bs : List UInt8} {zs : List Int} (hl : zs.length = bs.length + 1) (hp : permErr zs = 0) : ascB bs zs = decide (zs = sortL bs) := by
  cases h : ascB bs zs with
  | true => rw [decide_eq_true (order_unique hl hp (pairwise_of_ascB h))]
  | false =>
    rw [decide_eq_false]
    intro e
    rw [e, ascB_of_pairwise (sortL_sorted bs)] at h
    cases h
theorem checkErr_sortL (bs : List UInt8) (h : bs.length ≤ 65536) : checkErr bs (sortL bs) = 0 := by
  unfold checkErr
  rw [if_neg (by omega), if_neg (by rw [sortL_length]; simp), if_neg (by rw [sortL_perm]; simp), ascB_of_pairwise (sortL_sorted bs)]
  rfl
theorem checkErr_iff {bs : List UInt8} {zs : List Int} (h : bs.length ≤ 65536) : checkErr bs zs = 0 ↔ zs = sortL bs := by
  constructor
  · intro he
    obtain ⟨h1, h2, h3, h4⟩ := checkErr_zero he
    exact order_unique h2 h3 (pairwise_of_ascB h4)
  · rintro rfl
    exact checkErr_sortL bs h
end Go.Proofs.Ytoodfmilleodaaa
