/- The library's parts of Learn: keys, collect, delete, sort; in the words of the kit. -/
import Derived.Test.YtdebhdopginllaaDoorDl
import Derived.Test.YtdebhdopginllaaDoorShelf
import Derived.Test.YtdebhdopginllaaDoorIter
namespace Go.Proofs.YtdebhdopginllaaDoor
open Go.RowKit Go.Proofs Go.Sort Go.Shelf
set_option linter.unusedVariables false

/-- strings that are not too long, as elements. -/
abbrev SW := { s : List UInt8 // s.length ≤ 1000000 }
instance : Inhabited SW := ⟨⟨[], by simp⟩⟩
def encA (x : SW) : Value := encS x.1
theorem encA_one : OneCell encA := fun x => rfl

/-- a slice that holds xs in a block from B on; or nil. -/
def RowA (w : World) (B : Nat) (A : Option Addr) (m c : Nat) (xs : List SW) : Prop :=
  xs.length = m ∧ m ≤ c ∧ ((A = none ∧ m = 0) ∨ ∃ g, A = some ⟨g, 0, none⟩ ∧ B ≤ g ∧ g < w.heap.size ∧ Holds encA w g 0 xs.toArray)
theorem RowA.strs {w : World} {B : Nat} {A : Option Addr} {m c : Nat} {xs : List SW} (h : RowA w B A m c xs) : Strs w A m c (xs.map (·.1)) := by
  obtain ⟨h1, h2, h3⟩ := h
  refine ⟨by simpa using h1, h2, fun hm => ?_⟩
  rcases h3 with ⟨_, h⟩ | ⟨g, rfl, _, hlt, hH⟩
  · omega
  · refine ⟨g, 0, rfl, hlt, fun i hi => ?_⟩
    have := (hH i (by simpa [h1] using hi)).1
    rw [this]
    have hi' : i < xs.length := by omega
    simp [encA, encS, gs, List.getD, hi']

/-- the counts lie in a map behind a box, both below B. -/
def CountsB (w : World) (B Bm M n : Nat) (c : List UInt8 → Nat) : Prop := Bm < B ∧ M < B ∧ Boxed w Bm 40 (.map (some M)) ∧ ∃ f, MapIs Tryd.prog 9 3 .i64 w M n f ∧ (∀ s, (f s).getD 0 = (c s : Int)) ∧ ∀ s, c s ≤ 1000000
theorem CountsB.same {w W : World} {B Bm M n : Nat} {c : List UInt8 → Nat} (h : CountsB w B Bm M n c) (hb : ∀ k, k < B → k < w.heap.size → W.heap[k]? = w.heap[k]?) : CountsB W B Bm M n c := by
  obtain ⟨h1, h2, h3, f, h4, h5⟩ := h
  exact ⟨h1, h2, (hb _ h1 h3.lt).trans h3, f, h4.same (hb _ h2 h4.lt), h5⟩
theorem CountsB.counts {w : World} {B Bm M n : Nat} {c : List UInt8 → Nat} (h : CountsB w B Bm M n c) : Counts w Bm M n c := by
  obtain ⟨h1, h2, h3, f, h4, h5⟩ := h
  exact ⟨f, h3.cell, h4, h5⟩

theorem sortWorld_grown {α : Type} [Inhabited α] {enc : α → Value} (w : World) (blk m : Nat) (d : Array α) (os : Array Obj) : w.grownBy (sortWorld enc w blk 0 m d os) (some blk) := by
  refine ⟨rfl, rfl, rfl, ?_, fun k hk hne => ?_⟩
  · simp [sortWorld, grow, putRow, mapBlock, Sort.ahead]
  · have hne' : ¬ blk = k := fun e => hne (by rw [e])
    simp only [sortWorld, grow, putRow, mapBlock, Sort.ahead]
    rw [Array.getElem?_append_left (by simpa using hk), Array.getElem?_modify, if_neg hne']
theorem putRow_grown {α : Type} [Inhabited α] {enc : α → Value} (w : World) (q blk : Nat) (d : Array α) : w.grownBy (putRow enc (Sort.ahead w q) blk 0 d) (some blk) := by
  refine ⟨rfl, rfl, rfl, ?_, fun k hk hne => ?_⟩
  · simp [putRow, mapBlock, Sort.ahead]
  · have hne' : ¬ blk = k := fun e => hne (by rw [e])
    simp only [putRow, mapBlock, Sort.ahead]
    rw [Array.getElem?_modify, if_neg hne']
theorem below_of_grown {w w' : World} {B g : Nat} (h : w.grownBy w' (some g)) (hg : B ≤ g) (hB : B ≤ w.heap.size) : Below B w w' := (Below.refl B w).grown h hB (fun k e => by cases e; exact hg)

set_option maxHeartbeats 400000 in
theorem indexF_nil (c : Nat) (fv : Value) (w : World) : Calls Tryd.prog 36 #[.slice none 0 c, fv] w fun e w' => e = .returned (.int .i64 (-1)) ∧ w' = w := by
  go_enter Tryd.func36, Tryd.ntmps36
  go_wp2
  refine wp_loop_rounds 1 ?_
  rw [rounds_succ]
  go_wp2
  go_ret
  exact ⟨rfl, rfl⟩
set_option maxHeartbeats 400000 in
theorem delete_nil (c : Nat) (fv : Value) (w : World) : Calls Tryd.prog 18 #[.slice none 0 c, fv] w fun e w' => e = .returned (.slice none 0 c) ∧ w' = w := by
  go_enter Tryd.func18, Tryd.ntmps18
  go_wp2_with fail
  refine (indexF_nil _ _ _).mono ?_
  rintro e w1 ⟨rfl, hw1⟩
  obtain rfl : w = w1 := hw1.symm
  go_wp2_with fail
  go_ret
  exact ⟨rfl, rfl⟩
set_option maxHeartbeats 400000 in
theorem insertion_nil (c : Nat) (fv : Value) (w : World) : Calls Tryd.prog 46 #[.slice none 0 c, .int .i64 0, .int .i64 0, fv] w fun e w' => e = .returned (.tuple #[]) ∧ w' = w := by
  go_enter Tryd.func46, Tryd.ntmps46
  go_wp2
  refine wp_loop_rounds 1 ?_
  rw [rounds_succ]
  go_wp2
  go_end0
  exact ⟨rfl, rfl⟩
set_option maxRecDepth 100000 in
set_option maxHeartbeats 400000 in
theorem pdq_nil (c : Nat) (fv : Value) (k : Int) (w : World) : Calls Tryd.prog 37 #[.slice none 0 c, .int .i64 0, .int .i64 0, .int .i64 k, fv] w fun e w' => e = .returned (.tuple #[]) ∧ w' = w := by
  go_enter Tryd.func37, Tryd.ntmps37
  go_wp2
  refine wp_loop_rounds 1 ?_
  rw [rounds_succ]
  go_wp2_with fail
  refine (insertion_nil _ _ _).mono ?_
  rintro e w1 ⟨rfl, hw1⟩
  obtain rfl : w = w1 := hw1.symm
  go_wp2_with fail
  first
    | (refine bodyPost_ret (results_none rfl _ _ _) rfl ?_; exact ⟨rfl, rfl⟩)
    | (go_end0; exact ⟨rfl, rfl⟩)
set_option maxHeartbeats 400000 in
theorem sort_nil (c : Nat) (fv : Value) (w : World) : Calls Tryd.prog 22 #[.slice none 0 c, fv] w fun e w' => e = .returned (.tuple #[]) ∧ w' = w := by
  go_enter Tryd.func22, Tryd.ntmps22
  go_wp2_with fail
  refine (Tryd.bits_Len 0 w (by omega) (by omega)).mono ?_
  rintro e w1 ⟨rfl, hw1⟩
  obtain rfl : w = w1 := hw1.symm
  go_wp2_with fail
  refine (pdq_nil _ _ _ _).mono ?_
  rintro e w1 ⟨rfl, hw1⟩
  obtain rfl : w = w1 := hw1.symm
  go_wp2_with fail
  go_end0
  exact ⟨rfl, rfl⟩

/-- what slices.DeleteFunc leaves. -/
def Deleted (w : World) (B : Nat) (c0 : List UInt8 → Nat) (xs : List SW) (e : Ending) (w' : World) : Prop :=
  ∃ A m c, e = .returned (.slice A m c) ∧ RowA w' B A m c (xs.filter fun x => !delB c0 x.1) ∧ Below B w w'
theorem delete_any (w : World) (B Bm M n : Nat) (c0 : List UInt8 → Nat) (A : Option Addr) (m c : Nat) (xs : List SW) (hB : B ≤ w.heap.size) (hx : RowA w B A m c xs) (hc : CountsB w B Bm M n c0) (hm : m ≤ 1000000000) :
    Calls Tryd.prog 18 #[.slice A m c, .func (.func 19) #[] #[.pointer (some ⟨Bm, 0, none⟩)]] w (Deleted w B c0 xs) := by
  obtain ⟨h1, h2, ⟨rfl, rfl⟩ | ⟨g, rfl, hg, hlt, hH⟩⟩ := hx
  · have hxs : xs = [] := List.length_eq_zero_iff.1 h1
    subst hxs
    refine (delete_nil c _ w).mono ?_
    rintro e w' ⟨rfl, rfl⟩
    exact ⟨none, 0, c, rfl, ⟨rfl, h2, .inl ⟨rfl, rfl⟩⟩, Below.refl _ _⟩
  · have hsz : xs.toArray.size = m := by simpa using h1
    have key := Tryd.slices_DeleteFunc encA encA_one (fun x => delB c0 x.1) 19 #[.pointer (some ⟨Bm, 0, none⟩)] (enters_of Tryd.func19 (by kernel_rfl) rfl) ⟨[], by simp⟩ (fun w => by kernel_rfl) g 0 c xs.toArray w
      (fun W x hW => by
        have hc' := hc.same (W := W) (fun k _ hk => hW.block k hk)
        exact (learn1_any x.1 x.2 Bm M n c0 W hc'.counts).mono fun e w' ⟨he, hw⟩ => ⟨he, 0, hw⟩)
      (fun q os dk x hdk => by
        have hc' := hc.same (W := sortWorld encA w g 0 q dk os) (fun k hk hlt => (sortWorld_grown w g q dk os).block k hlt (fun e => by injection e with e; omega))
        exact (learn1_any x.1 x.2 Bm M n c0 _ hc'.counts).mono fun e w' ⟨he, hw⟩ => ⟨he, 0, hw⟩)
      hH (by rw [hsz]; omega) (by rw [hsz]; exact h2)
    rw [hsz] at key
    refine key.mono ?_
    rintro e w' ⟨he, q, rfl⟩
    rw [List.toList_toArray] at he
    have hfl : (xs.filter fun x => !delB c0 x.1).length ≤ m := by rw [← h1]; exact List.length_filter_le _ _
    refine ⟨_, _, _, he, ⟨rfl, by omega, .inr ⟨g, rfl, hg, ?_, ?_⟩⟩, below_of_grown (putRow_grown w q g _) hg hB⟩
    · exact Nat.lt_of_lt_of_le hlt (putRow_grown w q g _).size
    · have hH2 := holds_putRow encA (Sort.ahead w q) g 0 xs.toArray ((xs.filter fun x : SW => !delB c0 x.1) ++ List.replicate (m - (xs.filter fun x : SW => !delB c0 x.1).length) (⟨[], by simp⟩ : SW) : List SW).toArray (holds_ahead encA w q g 0 _ hH) (by simp; omega)
      intro j hj
      have hj' : j < (xs.filter fun x => !delB c0 x.1).length := by simpa using hj
      have := hH2 j (by simp; omega)
      rw [List.toList_toArray]
      refine ⟨?_, this.2⟩
      rw [this.1, getElem!_pos _ j (by simp; omega), getElem!_pos _ j hj]
      simp [hj']

theorem cmpW_neg (c : List UInt8 → Nat) (x y : List UInt8) : cmpW c x y < 0 ↔ (gainI c y < gainI c x ∨ (gainI c x = gainI c y ∧ x < y)) := by
  unfold cmpW cmpI cmpS orI orI orI
  rcases Int.lt_trichotomy (gainI c y) (gainI c x) with h | h | h
  · simp [h]
  · rw [h]
    simp
    by_cases h1 : x < y
    · simp [h1]
    · by_cases h2 : y < x <;> simp [h1, h2]
  · have h' : ¬ gainI c y < gainI c x := by omega
    have h'' : gainI c x ≠ gainI c y := by omega
    simp [h, h', h'']
theorem swo_cmpW (c : List UInt8 → Nat) : SWO (ltOf (fun x y : SW => cmpW c x.1 y.1)) := by
  have key : ∀ x y : SW, ltOf (fun x y : SW => cmpW c x.1 y.1) x y = true ↔ (gainI c y.1 < gainI c x.1 ∨ (gainI c x.1 = gainI c y.1 ∧ x.1 < y.1)) := fun x y => by
    unfold ltOf; rw [decide_eq_true_iff]; exact cmpW_neg c x.1 y.1
  have keyf : ∀ x y : SW, ltOf (fun x y : SW => cmpW c x.1 y.1) x y = false ↔ ¬ (gainI c y.1 < gainI c x.1 ∨ (gainI c x.1 = gainI c y.1 ∧ x.1 < y.1)) := fun x y => by
    rw [← key x y]; simp
  refine ⟨fun x => ?_, fun x y z h1 h2 => ?_, fun x y z h1 h2 => ?_⟩
  · rw [keyf]
    rintro (h | ⟨_, h⟩)
    · omega
    · exact List.lt_irrefl _ h
  · rw [key] at h1 h2 ⊢
    rcases h1 with h1 | ⟨e1, h1⟩ <;> rcases h2 with h2 | ⟨e2, h2⟩
    · left; omega
    · left; omega
    · left; omega
    · right; exact ⟨by omega, List.lt_trans h1 h2⟩
  · rw [keyf] at h1 h2 ⊢
    rintro (h | ⟨e, h⟩)
    · by_cases h3 : gainI c y.1 < gainI c x.1
      · exact h1 (.inl h3)
      · exact h2 (.inl (by omega))
    · have e1 : gainI c x.1 = gainI c y.1 := by
        rcases Int.lt_trichotomy (gainI c x.1) (gainI c y.1) with h3 | h3 | h3
        · exact absurd (.inl (by omega)) h2
        · exact h3
        · exact absurd (.inl h3) h1
      have e2 : gainI c y.1 = gainI c z.1 := by omega
      have n1 : ¬ x.1 < y.1 := fun h3 => h1 (.inr ⟨e1, h3⟩)
      have n2 : ¬ y.1 < z.1 := fun h3 => h2 (.inr ⟨e2, h3⟩)
      have l1 := List.not_lt.1 n1
      have l2 := List.not_lt.1 n2
      exact absurd h (List.not_lt.2 (List.le_trans l2 l1))

/-- what slices.SortFunc leaves. -/
def SortedBy (w : World) (B : Nat) (c0 : List UInt8 → Nat) (A : Option Addr) (m c : Nat) (xs : List SW) (e : Ending) (w' : World) : Prop :=
  e = .returned (.tuple #[]) ∧ ∃ ys : List SW, ys.Perm xs ∧ ys.Pairwise (fun a b => ¬ cmpW c0 b.1 a.1 < 0) ∧ RowA w' B A m c ys ∧ Below B w w'
theorem sort_any (w : World) (B Bm M n : Nat) (c0 : List UInt8 → Nat) (A : Option Addr) (m c : Nat) (xs : List SW) (hB : B ≤ w.heap.size) (hx : RowA w B A m c xs) (hc : CountsB w B Bm M n c0) (hm : m ≤ 1000000000) :
    Calls Tryd.prog 22 #[.slice A m c, .func (.func 23) #[] #[.pointer (some ⟨Bm, 0, none⟩)]] w (SortedBy w B c0 A m c xs) := by
  obtain ⟨h1, h2, ⟨rfl, rfl⟩ | ⟨g, rfl, hg, hlt, hH⟩⟩ := hx
  · have hxs : xs = [] := List.length_eq_zero_iff.1 h1
    subst hxs
    refine (sort_nil c _ w).mono ?_
    rintro e w' ⟨rfl, rfl⟩
    exact ⟨rfl, [], List.Perm.refl _, List.Pairwise.nil, ⟨rfl, h2, .inl ⟨rfl, rfl⟩⟩, Below.refl _ _⟩
  · have hsz : xs.toArray.size = m := by simpa using h1
    have key := Tryd.slices_SortFunc encA encA_one (fun x y => cmpW c0 x.1 y.1) (swo_cmpW c0) 23 #[.pointer (some ⟨Bm, 0, none⟩)] g 0 c xs.toArray w (enters_of Tryd.func23 (by kernel_rfl) rfl)
      (fun q os dk hdk x y => by
        have hc' := hc.same (W := sortWorld encA w g 0 q dk os) (fun k hk hlt => (sortWorld_grown w g q dk os).block k hlt (fun e => by injection e with e; omega))
        refine (learn2_any x.1 y.1 x.2 y.2 Bm M n c0 _ hc'.counts).mono ?_
        rintro e w' ⟨he, q', o, hw⟩
        exact ⟨he, q', #[o], by rw [hw, alloc_eq_grow]⟩)
      hH hlt (by rw [hsz]; omega)
    rw [hsz] at key
    refine key.mono ?_
    rintro e w' ⟨he, d', q, os, hp, hso, rfl⟩
    have hd : d'.size = m := by rw [hp.1, hsz]
    refine ⟨he, d'.toList, ?_, ?_, ⟨by simpa using hd, h2, .inr ⟨g, rfl, hg, Nat.lt_of_lt_of_le hlt (sortWorld_grown w g q d' os).size, ?_⟩⟩, below_of_grown (sortWorld_grown w g q d' os) hg hB⟩
    · have := hp.2.2
      rw [show d'.extract 0 m = d' by rw [← hd]; simp, show xs.toArray.extract 0 m = xs.toArray by rw [← hsz]; simp] at this
      simpa using this
    · rw [List.pairwise_iff_getElem]
      intro i j hi hj hij
      have hi' : i < d'.size := by simpa using hi
      have hj' : j < d'.size := by simpa using hj
      have := hso i j (Nat.zero_le _) hij (by omega)
      rw [getElem!_pos d' i hi', getElem!_pos d' j hj'] at this
      simpa [ltOf] using this
    · have := holds_sortWorld encA w g 0 q xs.toArray d' os hlt hH (by rw [hd, hsz])
      simpa using this
end Go.Proofs.YtdebhdopginllaaDoor
