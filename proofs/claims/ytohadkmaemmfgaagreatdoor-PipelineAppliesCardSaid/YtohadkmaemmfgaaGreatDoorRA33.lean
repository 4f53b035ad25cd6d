/- Dm Dn Do Dt. -/
import Derived.Test.YtohadkmaemmfgaaGreatDoorRA32
import Derived.Test.YtohadkmaemmfgaaGreatDoorRA06
import Derived.Test.YtohadkmaemmfgaaGreatDoorRA30
import Derived.Sort.OwnSorted
import Derived.Test.YtohadkmaemmfgaaGreatDoorRA09
import Derived.WalkSpells
set_option maxRecDepth 100000
set_option maxHeartbeats 4000000
namespace Go.Proofs.YtohadkmaemmfgaaGreatDoor.Dic
open Go.RowKit Go.Proofs Go.Sort Go.Shelf
set_option linter.unusedVariables false
abbrev SW := { s : List UInt8 // s.length ≤ 1000000 }
instance : Inhabited SW := ⟨⟨[], by simp⟩⟩
def encA (x : SW) : Value := encS x.1
theorem encA_one : OneCell encA := fun x => rfl
def RowA (w : World) (B : Nat) (A : Option Addr) (m c : Nat) (xs : List SW) : Prop :=
  xs.length = m ∧ m ≤ c ∧ ((A = none ∧ m = 0) ∨ ∃ g, A = some ⟨g, 0, none⟩ ∧ B ≤ g ∧ g < w.heap.size ∧ Holds encA w g 0 xs.toArray)
theorem RowA.strs {w : World} {B : Nat} {A : Option Addr} {m c : Nat} {xs : List SW} (h : RowA w B A m c xs) : Strs w A m c (xs.map (·.1)) := by
  obtain ⟨h1, h2, h3⟩ := h
  refine ⟨by simpa using h1, h2, fun hm => ?_⟩
  rcases h3 with ⟨_, h⟩ | ⟨g, rfl, _, hlt, hH⟩
  · omega
  · refine ⟨g, 0, rfl, hlt, fun i hi => ?_⟩
    have := (hH i (by simpa [h1] using hi)).1
    rw [this]
    have hi' : i < xs.length := by omega
    simp [encA, encS, gs, List.getD, hi']
def CountsB (w : World) (B Bm M n : Nat) (c : List UInt8 → Nat) : Prop := Bm < B ∧ M < B ∧ Boxed w Bm 154 (.map (some M)) ∧ ∃ f, MapIs Tryz.prog 9 3 .i64 w M n f ∧ (∀ s, (f s).getD 0 = (c s : Int)) ∧ ∀ s, c s ≤ 1000000
theorem CountsB.same {w W : World} {B Bm M n : Nat} {c : List UInt8 → Nat} (h : CountsB w B Bm M n c) (hb : ∀ k, k < B → k < w.heap.size → W.heap[k]? = w.heap[k]?) : CountsB W B Bm M n c := by
  obtain ⟨h1, h2, h3, f, h4, h5⟩ := h
  exact ⟨h1, h2, (hb _ h1 h3.lt).trans h3, f, h4.same (hb _ h2 h4.lt), h5⟩
theorem CountsB.counts {w : World} {B Bm M n : Nat} {c : List UInt8 → Nat} (h : CountsB w B Bm M n c) : Counts w Bm M n c := by
  obtain ⟨h1, h2, h3, f, h4, h5⟩ := h
  exact ⟨f, h3.cell, h4, h5⟩
theorem sortWorld_grown {α : Type} [Inhabited α] {enc : α → Value} (w : World) (blk m : Nat) (d : Array α) (os : Array Obj) : w.grownBy (sortWorld enc w blk 0 m d os) (some blk) := by
  refine ⟨rfl, rfl, rfl, ?_, fun k hk hne => ?_⟩
  · simp [sortWorld, grow, putRow, mapBlock, Sort.ahead]
  · have hne' : ¬ blk = k := fun e => hne (by rw [e])
    simp only [sortWorld, grow, putRow, mapBlock, Sort.ahead]
    rw [Array.getElem?_append_left (by simpa using hk), Array.getElem?_modify, if_neg hne']
theorem putRow_grown {α : Type} [Inhabited α] {enc : α → Value} (w : World) (q blk : Nat) (d : Array α) : w.grownBy (putRow enc (Sort.ahead w q) blk 0 d) (some blk) := by
  refine ⟨rfl, rfl, rfl, ?_, fun k hk hne => ?_⟩
  · simp [putRow, mapBlock, Sort.ahead]
  · have hne' : ¬ blk = k := fun e => hne (by rw [e])
    simp only [putRow, mapBlock, Sort.ahead]
    rw [Array.getElem?_modify, if_neg hne']
theorem below_of_grown {w w' : World} {B g : Nat} (h : w.grownBy w' (some g)) (hg : B ≤ g) (hB : B ≤ w.heap.size) : Below B w w' := (Below.refl B w).grown h hB (fun k e => by cases e; exact hg)
theorem indexF_nil (c : Nat) (fv : Value) (w : World) : Calls Tryz.prog 207 #[.slice none 0 c, fv] w fun e w' => e = .returned (.int .i64 (-1)) ∧ w' = w := by
  go_enter Tryz.func207, Tryz.ntmps207
  go_wp2
  refine wp_loop_rounds 1 ?_
  rw [rounds_succ]
  go_wp2
  go_ret
  exact ⟨rfl, rfl⟩
theorem delete_nil (c : Nat) (fv : Value) (w : World) : Calls Tryz.prog 136 #[.slice none 0 c, fv] w fun e w' => e = .returned (.slice none 0 c) ∧ w' = w := by
  go_enter Tryz.func136, Tryz.ntmps136
  go_wp2_with fail
  refine (indexF_nil _ _ _).mono ?_
  rintro e w1 ⟨rfl, hw1⟩
  obtain rfl : w = w1 := hw1.symm
  go_wp2_with fail
  go_ret
  exact ⟨rfl, rfl⟩
theorem insertion_nil (c : Nat) (fv : Value) (w : World) : Calls Tryz.prog 253 #[.slice none 0 c, .int .i64 0, .int .i64 0, fv] w fun e w' => e = .returned (.tuple #[]) ∧ w' = w := by
  go_enter Tryz.func253, Tryz.ntmps253
  go_wp2
  refine wp_loop_rounds 1 ?_
  rw [rounds_succ]
  go_wp2
  go_end0
  exact ⟨rfl, rfl⟩
theorem pdq_nil (c : Nat) (fv : Value) (k : Int) (w : World) : Calls Tryz.prog 208 #[.slice none 0 c, .int .i64 0, .int .i64 0, .int .i64 k, fv] w fun e w' => e = .returned (.tuple #[]) ∧ w' = w := by
  go_enter Tryz.func208, Tryz.ntmps208
  go_wp2
  refine wp_loop_rounds 1 ?_
  rw [rounds_succ]
  go_wp2_with fail
  refine (insertion_nil _ _ _).mono ?_
  rintro e w1 ⟨rfl, hw1⟩
  obtain rfl : w = w1 := hw1.symm
  go_wp2_with fail
  first
    | (refine bodyPost_ret (results_none rfl _ _ _) rfl ?_; exact ⟨rfl, rfl⟩)
    | (go_end0; exact ⟨rfl, rfl⟩)
theorem sort_nil (c : Nat) (fv : Value) (w : World) : Calls Tryz.prog 140 #[.slice none 0 c, fv] w fun e w' => e = .returned (.tuple #[]) ∧ w' = w := by
  go_enter Tryz.func140, Tryz.ntmps140
  go_wp2_with fail
  refine (Tryz.bits_Len 0 w (by omega) (by omega)).mono ?_
  rintro e w1 ⟨rfl, hw1⟩
  obtain rfl : w = w1 := hw1.symm
  go_wp2_with fail
  refine (pdq_nil _ _ _ _).mono ?_
  rintro e w1 ⟨rfl, hw1⟩
  obtain rfl : w = w1 := hw1.symm
  go_wp2_with fail
  go_end0
  exact ⟨rfl, rfl⟩
def Deleted (w : World) (B : Nat) (c0 : List UInt8 → Nat) (xs : List SW) (e : Ending) (w' : World) : Prop :=
  ∃ A m c, e = .returned (.slice A m c) ∧ RowA w' B A m c (xs.filter fun x => !delB c0 x.1) ∧ Below B w w'
theorem delete_any (w : World) (B Bm M n : Nat) (c0 : List UInt8 → Nat) (A : Option Addr) (m c : Nat) (xs : List SW) (hB : B ≤ w.heap.size) (hx : RowA w B A m c xs) (hc : CountsB w B Bm M n c0) (hm : m ≤ 1000000000) :
    Calls Tryz.prog 136 #[.slice A m c, .func (.func 137) #[] #[.pointer (some ⟨Bm, 0, none⟩)]] w (Deleted w B c0 xs) := by
  obtain ⟨h1, h2, ⟨rfl, rfl⟩ | ⟨g, rfl, hg, hlt, hH⟩⟩ := hx
  · have hxs : xs = [] := List.length_eq_zero_iff.1 h1
    subst hxs
    refine (delete_nil c _ w).mono ?_
    rintro e w' ⟨rfl, rfl⟩
    exact ⟨none, 0, c, rfl, ⟨rfl, h2, .inl ⟨rfl, rfl⟩⟩, Below.refl _ _⟩
  · have hsz : xs.toArray.size = m := by simpa using h1
    have key := Tryz.slices_DeleteFunc encA encA_one (fun x => delB c0 x.1) 137 #[.pointer (some ⟨Bm, 0, none⟩)] (enters_of Tryz.func137 (by kernel_rfl) rfl) ⟨[], by simp⟩ (fun w => by kernel_rfl) g 0 c xs.toArray w
      (fun W x hW => by
        have hc' := hc.same (W := W) (fun k _ hk => hW.block k hk)
        exact (learn1_any x.1 x.2 Bm M n c0 W hc'.counts).mono fun e w' ⟨he, hw⟩ => ⟨he, 0, hw⟩)
      (fun q os dk x hdk => by
        have hc' := hc.same (W := sortWorld encA w g 0 q dk os) (fun k hk hlt => (sortWorld_grown w g q dk os).block k hlt (fun e => by injection e with e; omega))
        exact (learn1_any x.1 x.2 Bm M n c0 _ hc'.counts).mono fun e w' ⟨he, hw⟩ => ⟨he, 0, hw⟩)
      hH (by rw [hsz]; omega) (by rw [hsz]; exact h2)
    rw [hsz] at key
    refine key.mono ?_
    rintro e w' ⟨he, q, rfl⟩
    rw [List.toList_toArray] at he
    have hfl : (xs.filter fun x => !delB c0 x.1).length ≤ m := by rw [← h1]; exact List.length_filter_le _ _
    refine ⟨_, _, _, he, ⟨rfl, by omega, .inr ⟨g, rfl, hg, ?_, ?_⟩⟩, below_of_grown (putRow_grown w q g _) hg hB⟩
    · exact Nat.lt_of_lt_of_le hlt (putRow_grown w q g _).size
    · have hH2 := holds_putRow encA (Sort.ahead w q) g 0 xs.toArray ((xs.filter fun x : SW => !delB c0 x.1) ++ List.replicate (m - (xs.filter fun x : SW => !delB c0 x.1).length) (⟨[], by simp⟩ : SW) : List SW).toArray (holds_ahead encA w q g 0 _ hH) (by simp; omega)
      intro j hj
      have hj' : j < (xs.filter fun x => !delB c0 x.1).length := by simpa using hj
      have := hH2 j (by simp; omega)
      rw [List.toList_toArray]
      refine ⟨?_, this.2⟩
      rw [this.1, getElem!_pos _ j (by simp; omega), getElem!_pos _ j hj]
      simp [hj']
theorem cmpW_neg (c : List UInt8 → Nat) (x y : List UInt8) : cmpW c x y < 0 ↔ (gainI c y < gainI c x ∨ (gainI c x = gainI c y ∧ x < y)) := by
  unfold cmpW cmpI cmpS orI orI orI
  rcases Int.lt_trichotomy (gainI c y) (gainI c x) with h | h | h
  · simp [h]
  · rw [h]
    simp
    by_cases h1 : x < y
    · simp [h1]
    · by_cases h2 : y < x <;> simp [h1, h2]
  · have h' : ¬ gainI c y < gainI c x := by omega
    have h'' : gainI c x ≠ gainI c y := by omega
    simp [h, h', h'']
theorem swo_cmpW (c : List UInt8 → Nat) : SWO (ltOf (fun x y : SW => cmpW c x.1 y.1)) := by
  have key : ∀ x y : SW, ltOf (fun x y : SW => cmpW c x.1 y.1) x y = true ↔ (gainI c y.1 < gainI c x.1 ∨ (gainI c x.1 = gainI c y.1 ∧ x.1 < y.1)) := fun x y => by
    unfold ltOf; rw [decide_eq_true_iff]; exact cmpW_neg c x.1 y.1
  have keyf : ∀ x y : SW, ltOf (fun x y : SW => cmpW c x.1 y.1) x y = false ↔ ¬ (gainI c y.1 < gainI c x.1 ∨ (gainI c x.1 = gainI c y.1 ∧ x.1 < y.1)) := fun x y => by
    rw [← key x y]; simp
  refine ⟨fun x => ?_, fun x y z h1 h2 => ?_, fun x y z h1 h2 => ?_⟩
  · rw [keyf]
    rintro (h | ⟨_, h⟩)
    · omega
    · exact List.lt_irrefl _ h
  · rw [key] at h1 h2 ⊢
    rcases h1 with h1 | ⟨e1, h1⟩ <;> rcases h2 with h2 | ⟨e2, h2⟩
    · left; omega
    · left; omega
    · left; omega
    · right; exact ⟨by omega, List.lt_trans h1 h2⟩
  · rw [keyf] at h1 h2 ⊢
    rintro (h | ⟨e, h⟩)
    · by_cases h3 : gainI c y.1 < gainI c x.1
      · exact h1 (.inl h3)
      · exact h2 (.inl (by omega))
    · have e1 : gainI c x.1 = gainI c y.1 := by
        rcases Int.lt_trichotomy (gainI c x.1) (gainI c y.1) with h3 | h3 | h3
        · exact absurd (.inl (by omega)) h2
        · exact h3
        · exact absurd (.inl h3) h1
      have e2 : gainI c y.1 = gainI c z.1 := by omega
      have n1 : ¬ x.1 < y.1 := fun h3 => h1 (.inr ⟨e1, h3⟩)
      have n2 : ¬ y.1 < z.1 := fun h3 => h2 (.inr ⟨e2, h3⟩)
      have l1 := List.not_lt.1 n1
      have l2 := List.not_lt.1 n2
      exact absurd h (List.not_lt.2 (List.le_trans l2 l1))
def SortedBy (w : World) (B : Nat) (c0 : List UInt8 → Nat) (A : Option Addr) (m c : Nat) (xs : List SW) (e : Ending) (w' : World) : Prop :=
  e = .returned (.tuple #[]) ∧ ∃ ys : List SW, ys.Perm xs ∧ ys.Pairwise (fun a b => ¬ cmpW c0 b.1 a.1 < 0) ∧ RowA w' B A m c ys ∧ Below B w w'
theorem sort_any (w : World) (B Bm M n : Nat) (c0 : List UInt8 → Nat) (A : Option Addr) (m c : Nat) (xs : List SW) (hB : B ≤ w.heap.size) (hx : RowA w B A m c xs) (hc : CountsB w B Bm M n c0) (hm : m ≤ 1000000000) :
    Calls Tryz.prog 140 #[.slice A m c, .func (.func 141) #[] #[.pointer (some ⟨Bm, 0, none⟩)]] w (SortedBy w B c0 A m c xs) := by
  obtain ⟨h1, h2, ⟨rfl, rfl⟩ | ⟨g, rfl, hg, hlt, hH⟩⟩ := hx
  · have hxs : xs = [] := List.length_eq_zero_iff.1 h1
    subst hxs
    refine (sort_nil c _ w).mono ?_
    rintro e w' ⟨rfl, rfl⟩
    exact ⟨rfl, [], List.Perm.refl _, List.Pairwise.nil, ⟨rfl, h2, .inl ⟨rfl, rfl⟩⟩, Below.refl _ _⟩
  · have hsz : xs.toArray.size = m := by simpa using h1
    have key := Tryz.slices_SortFunc_f140 encA encA_one (fun x y => cmpW c0 x.1 y.1) (swo_cmpW c0) 141 #[.pointer (some ⟨Bm, 0, none⟩)] g 0 c xs.toArray w (enters_of Tryz.func141 (by kernel_rfl) rfl)
      (fun q os dk hdk x y => by
        have hc' := hc.same (W := sortWorld encA w g 0 q dk os) (fun k hk hlt => (sortWorld_grown w g q dk os).block k hlt (fun e => by injection e with e; omega))
        refine (learn2_any x.1 y.1 x.2 y.2 Bm M n c0 _ hc'.counts).mono ?_
        rintro e w' ⟨he, q', o, hw⟩
        exact ⟨he, q', #[o], by rw [hw, alloc_eq_grow]⟩)
      hH hlt (by rw [hsz]; omega)
    rw [hsz] at key
    refine key.mono ?_
    rintro e w' ⟨he, d', q, os, hp, hso, rfl⟩
    have hd : d'.size = m := by rw [hp.1, hsz]
    refine ⟨he, d'.toList, ?_, ?_, ⟨by simpa using hd, h2, .inr ⟨g, rfl, hg, Nat.lt_of_lt_of_le hlt (sortWorld_grown w g q d' os).size, ?_⟩⟩, below_of_grown (sortWorld_grown w g q d' os) hg hB⟩
    · have := hp.2.2
      rw [show d'.extract 0 m = d' by rw [← hd]; simp, show xs.toArray.extract 0 m = xs.toArray by rw [← hsz]; simp] at this
      simpa using this
    · rw [List.pairwise_iff_getElem]
      intro i j hi hj hij
      have hi' : i < d'.size := by simpa using hi
      have hj' : j < d'.size := by simpa using hj
      have := hso i j (Nat.zero_le _) hij (by omega)
      rw [getElem!_pos d' i hi', getElem!_pos d' j hj'] at this
      simpa [ltOf] using this
    · have := holds_sortWorld encA w g 0 q xs.toArray d' os hlt hH (by rw [hd, hsz])
      simpa using this
end Go.Proofs.YtohadkmaemmfgaaGreatDoor.Dic
namespace Go.Proofs.YtohadkmaemmfgaaGreatDoor.Dic
open Go.RowKit Go.Proofs Go.Sort Go.Shelf
set_option linter.unusedVariables false
attribute [local go_sem] Oper.semAt_some
theorem keys_any (M : Nat) (W : World) : Calls Tryz.prog 135 #[.map (some M)] W fun e w' => e = .returned (.func (.func 206) #[] #[.pointer (some ⟨W.heap.size, 0, none⟩)]) ∧ w' = W.alloc (.cells #[.map (some M)] 154) :=
  (callsIn_wide (n := 5)).1 (AnyZ.keys_in Tryz.keysZ Fence.wide 5 trivial rfl (some M) W)
theorem strKeys_mem {D : DataW Unit} {P : Program} {k : TypeId} {R : Value → Option (DataW Unit × List MemPlace)} {w : World} {b n : Nat} (hown : w.ownsMap P k R b n D) (hk : P.underlying k = some .string) : (strKeys D).Nodup ∧ ∀ s, s ∈ strKeys D ↔ Maps.has D (.string s) = true := by
  obtain ⟨es, rfl, hpw, _⟩ := hown.entries (Maps.string_keyed hk)
  obtain ⟨es', he', hko⟩ := hown.keysOf
  cases he'
  have hstr : ∀ p ∈ es, ∃ x, p.1 = .string x := fun p hp => by
    obtain ⟨v, hv⟩ := hko p hp
    obtain ⟨x, _, hx, _⟩ := Maps.keyOf_str hk hv
    exact ⟨x, hx⟩
  constructor
  · show (es.map fun p => strOf p.1).Nodup
    rw [List.Nodup, List.pairwise_map]
    refine hpw.imp_of_mem ?_
    intro p q hp hq hne e
    obtain ⟨x, hx⟩ := hstr p hp
    obtain ⟨y, hy⟩ := hstr q hq
    rw [hx, hy] at e hne
    exact hne (by have : x = y := e; rw [this])
  · intro s
    show s ∈ (es.map fun p => strOf p.1) ↔ es.any (fun p => p.1.sameKey (.string s)) = true
    rw [List.mem_map, List.any_eq_true]
    constructor
    · rintro ⟨p, hp, rfl⟩
      obtain ⟨x, hx⟩ := hstr p hp
      exact ⟨p, hp, by rw [hx]; simp [Lit.sameKey, strOf]⟩
    · rintro ⟨p, hp, h⟩
      obtain ⟨x, hx⟩ := hstr p hp
      rw [hx] at h
      refine ⟨p, hp, ?_⟩
      rw [hx]
      simpa [Lit.sameKey, strOf] using h
def Collectd (W1 : World) (f : List UInt8 → Option Int) (n : Nat) (e : Ending) (w' : World) : Prop :=
  ∃ A m c ss, e = .returned (.slice A m c) ∧ Own encS w' W1.heap.size 9 A m c ss ∧ ss.Nodup ∧ (∀ s, s ∈ ss ↔ (f s).isSome = true) ∧ m ≤ n ∧ Below W1.heap.size W1 w'
theorem collect_any (M n : Nat) (f : List UInt8 → Option Int) (W W1 : World) (hW1 : W1 = W.alloc (.cells #[.map (some M)] 154)) (hm : MapIs Tryz.prog 9 3 .i64 W M n f) (hn : n ≤ 1000000) :
    Calls Tryz.prog 134 #[.func (.func 206) #[] #[.pointer (some ⟨W.heap.size, 0, none⟩)]] W1 (Collectd W1 f n) := by
  subst hW1
  have hml := hm.lt
  obtain ⟨D, hown, hD⟩ := hm
  have hsl := hown.size_le
  have hown1 : (W.alloc (.cells #[.map (some M)] 154)).ownsMap Tryz.prog 9 (plainElem Tryz.prog 3) M n D := by
    obtain ⟨es, clock, hb, Ft, hs, hD⟩ := hown
    exact ⟨es, clock, (Below.heap_alloc _ _ M hml).trans hb, Ft, hs, hD⟩
  have hseq : SeqGives Fence.wide 3 Tryz.prog 206 #[.pointer (some ⟨W.heap.size, 0, none⟩)] encStr (fun ss => ss.Perm (strKeys D)) (Maps.size D) (W.alloc (.cells #[.map (some M)] 154)) :=
    AnyZ.keys_gives (ρ := Tryz.keysZ_ren) { Tryz.keysZ with } Fence.wide _ trivial rfl (by omega) W.heap.size M n D _ (by simp) (by simp) hown1
  have hc := AnyZ.collect_in Tryz.collectZ Fence.wide 5 trivial trivial rfl (by omega) 206 #[.pointer (some ⟨W.heap.size, 0, none⟩)] trivial (enters_of Tryz.func206 (by kernel_rfl) rfl) _ _ (by simp [maxLen]; omega) (by omega) _ hseq
  refine ((callsIn_wide (n := 5)).1 hc).mono ?_
  rintro e w' ⟨v, ss, rfl, hp, hr, hnil, hb⟩
  have hform : ∃ A c, v = .slice A ss.length c := by
    rcases hr.2 with ⟨rfl, h0⟩ | ⟨g, cap, cur, rfl, _⟩
    · exact ⟨none, 0, by rw [h0]⟩
    · exact ⟨_, _, rfl⟩
  obtain ⟨A, c, rfl⟩ := hform
  obtain ⟨hnd, hmem⟩ := strKeys_mem hown uS
  have hlen : ss.length ≤ n := by
    have : (strKeys D).length = Maps.size D := by
      obtain ⟨es, clock, _, _, _, rfl⟩ := hown
      simp [strKeys, Maps.size]
    rw [hp.length_eq, this]; exact hsl
  exact ⟨A, ss.length, c, ss, rfl, hr, hp.nodup_iff.2 hnd, fun s => by rw [hp.mem_iff, hmem s, (hD s).1], hlen, hb⟩
def cntF (ws : List (List UInt8)) : List UInt8 → Option Int := fun s => if s ∈ ws then some (ws.count s : Int) else none
theorem cntF_get (ws : List (List UInt8)) (s : List UInt8) : (cntF ws s).getD 0 = (ws.count s : Int) := by
  unfold cntF
  by_cases h : s ∈ ws
  · rw [if_pos h]; rfl
  · rw [if_neg h, List.count_eq_zero_of_not_mem h]; rfl
theorem cntF_next (ws : List (List UInt8)) (s : List UInt8) : ∀ t, cntF (ws ++ [s]) t = fput (cntF ws) s ((ws.count s : Int) + 1) t := fun t => by
  unfold cntF fput
  by_cases h : t = s
  · subst h
    rw [if_pos rfl, if_pos (by simp)]
    simp
  · rw [if_neg h]
    have : (ws ++ [s]).count t = ws.count t := by simp [List.count_cons]; exact fun e => absurd e.symm h
    simp [h, this]
structure LearnI (w : World) (bs : List UInt8) (k : Nat) (W : World) : Prop where
  map : MapIs Tryz.prog 9 3 .i64 W w.heap.size k (cntF (wordsTo bs k))
  mbox : Boxed W (w.heap.size + 1) 154 (.map (some w.heap.size))
  below : Below w.heap.size w W
theorem LearnI.kept {w W W' : World} {bs : List UInt8} {k : Nat} {row : Option Nat} (h : LearnI w bs k W) (hg : W.grownBy W' row) (hrow : ∀ r, row = some r → w.heap.size + 2 ≤ r) : LearnI w bs k W' := by
  obtain ⟨h1, h2, h5⟩ := h
  have ne : ∀ j, j < w.heap.size + 2 → some j ≠ row := fun j hj e => by have := hrow j e.symm; omega
  exact ⟨h1.same (hg.block _ h1.lt (ne _ (by omega))), h2.kept hg (ne _ (by omega)), h5.grown hg h5.size (fun r e => by have := hrow r e; omega)⟩
theorem LearnI.step {w W W' : World} {bs : List UInt8} {k : Nat} (h : LearnI w bs k W) (hm : MapIs Tryz.prog 9 3 .i64 W' w.heap.size (k + 1) (cntF (wordsTo bs (k + 1)))) (hg : W.grownBy W' (some w.heap.size)) (hs : w.heap.size + 3 ≤ W.heap.size) :
    KeepsFrom (w.heap.size + 3) W W' ∧ pcKp w.heap.size (w.heap.size + 1 + 1) W W' ∧ LearnI w bs (k + 1) W' :=
  ⟨KeepsFrom.of_grownBy hg (fun j e => by cases e; omega), ⟨hg.block _ (by omega) (fun e => by injection e with e; omega), (Below.refl _ _).grown hg (by omega) (fun k e => by cases e; omega)⟩, hm, h.mbox.kept hg (by simp), h.below.grown hg h.below.size (fun k e => by cases e; omega)⟩
theorem wordsTo_mem {bs : List UInt8} : ∀ {k : Nat}, k ≤ (piecesL bs).length → ∀ s ∈ wordsTo bs k, s.length ≤ bs.length
  | 0, _, s, hs => by simp [wordsTo] at hs
  | k + 1, hk, s, hs => by
    rw [wordsTo, List.mem_append] at hs
    rcases hs with hs | hs
    · exact wordsTo_mem (by omega) s hs
    · split at hs
      · rw [List.mem_singleton] at hs
        subst hs
        rw [pcP_length (by omega)]
        have := plen_le (pieces_ne (bs := bs) (k := k) (by omega))
        rw [List.length_drop] at this
        omega
      · cases hs
theorem pieces_len (bs : List UInt8) : (piecesL bs).length ≤ bs.length := by
  have := pieces_count bs _ (Nat.le_refl _)
  rwa [pieces_end] at this
def RetStrs (w : World) (ss : List (List UInt8)) (x : Int) (e : Ending) (w' : World) : Prop := ∃ A n c, e = .returned (.tuple #[.slice A n c, .int .i64 x]) ∧ Strs w' A n c ss ∧ Below w.heap.size w w'
theorem Strs.nil (w : World) (c : Nat) : Strs w none 0 c [] := ⟨rfl, Nat.zero_le _, fun h => absurd h (by omega)⟩
theorem RetStrs.mk {w w' : World} {ss : List (List UInt8)} {x x' : Int} {A : Option Addr} {n c : Nat} (hx : x = x') (h : Strs w' A n c ss) (hb : Below w.heap.size w w') : RetStrs w ss x' (.returned (.tuple #[.slice A n c, .int .i64 x])) w' := by
  subst hx
  exact ⟨A, n, c, rfl, h, hb⟩
theorem RetStrs.err {w w' : World} {x x' : Int} (hx : x = x') (hb : Below w.heap.size w w') : RetStrs w [] x' (.returned (.tuple #[.slice none 0 0, .int .i64 x])) w' := RetStrs.mk hx (Strs.nil _ _) hb
theorem RowA.putObj {w : World} {B : Nat} {A : Option Addr} {m c : Nat} {xs : List SW} (h : RowA w B A m c xs) {D : Nat} (hD : D < B) (o : Obj) : RowA (w.putObj D o) B A m c xs := by
  obtain ⟨h1, h2, h3⟩ := h
  refine ⟨h1, h2, ?_⟩
  rcases h3 with h3 | ⟨g, rfl, hg, hlt, hH⟩
  · exact .inl h3
  · have e : (w.putObj D o).heap[g]? = w.heap[g]? := World.putObj_heap_other (by omega)
    refine .inr ⟨g, rfl, hg, Nat.lt_of_lt_of_le hlt (grownBy_putObj' w D o).size, fun j hj => ?_⟩
    have := hH j hj
    unfold World.cell? World.frozen? at *
    simp only at *
    rw [e]
    exact this
def learnR (bs : List UInt8) (most : Int) : List (List UInt8) × Nat := if most < 0 ∨ 64 < most then ([], 2) else (learnL bs most.toNat, 0)
theorem ranked_of {ws ss : List (List UInt8)} {ys : List SW} (hss : ss.Nodup) (hmem : ∀ s, s ∈ ss ↔ s ∈ ws) {xs : List SW} (hxs : xs.map (·.1) = ss) (hp : ys.Perm (xs.filter fun x => !delB (fun s => ws.count s) x.1)) (hs : ys.Pairwise (fun a b => ¬ cmpW (fun s => ws.count s) b.1 a.1 < 0)) : Ranked ws (ys.map (·.1)) := by
  have hnd : (ys.map (·.1)).Nodup := by
    have : (ys.map (·.1)).Perm ((xs.filter fun x => !delB (fun s => ws.count s) x.1).map (·.1)) := hp.map _
    rw [this.nodup_iff]
    have h2 : ((xs.filter fun x => !delB (fun s => ws.count s) x.1).map (·.1)).Sublist (xs.map (·.1)) := List.filter_sublist.map _
    rw [hxs] at h2
    exact h2.nodup hss
  constructor
  · rw [List.pairwise_map]
    rw [List.Nodup, List.pairwise_map] at hnd
    refine (hs.and hnd).imp ?_
    rintro a b ⟨h1, h2⟩
    rw [cmpW_neg] at h1
    rcases ahead_total (ws := ws) h2 with h | h
    · exact h
    · exact absurd h h1
  · intro s
    rw [List.mem_map]
    constructor
    · rintro ⟨y, hy, rfl⟩
      have h1 := (hp.mem_iff).1 hy
      rw [List.mem_filter] at h1
      refine ⟨(hmem _).1 (by rw [← hxs]; exact List.mem_map.2 ⟨y, h1.1, rfl⟩), ?_⟩
      have h2 := h1.2
      simp [delB, gainI] at h2
      exact ⟨h2.1, by have := of_decide_eq_false h2.2; unfold gainS; omega⟩
    · rintro ⟨h1, h2, h3⟩
      have h4 := (hmem s).2 h1
      rw [← hxs, List.mem_map] at h4
      obtain ⟨x, hx, rfl⟩ := h4
      refine ⟨x, (hp.mem_iff).2 (List.mem_filter.2 ⟨hx, ?_⟩), rfl⟩
      simp [delB, gainI, h2]
      exact decide_eq_false (by unfold gainS at h3; omega)
theorem learnP_any (A : Option Addr) (c m : Nat) (bs : List UInt8) (most : Int) (w : World) (hy : Bytes w A m c bs) (hm : m ≤ 65536) (hmo : -9223372036854775808 ≤ most ∧ most ≤ 9223372036854775807) :
    Calls Tryz.prog 78 #[.slice A m c, .int .i64 most] w (RetStrs w (learnR bs most).1 ((learnR bs most).2 : Nat)) := by
  have Hl := Lib.hid hy.1
  have hmm := @run_makeMap Tryz.prog
  have d65 : decide ((65536 : Int) < (m : Int)) = false := by simp; omega
  by_cases hneg : most < 0
  · have hR : Hid ((learnR bs most).1 = [] ∧ (learnR bs most).2 = 2) := by show _ ∧ _; unfold learnR; rw [if_pos (.inl hneg)]; exact ⟨rfl, rfl⟩
    have d1 : decide (most < 0) = true := by simpa using hneg
    refine calls_of_marks Tryz.func78 rfl ?_
    simp only [Tryz.ntmps78, List.size_toArray, List.length_cons, List.length_nil, Nat.reduceAdd, Nat.reduceSub, Array.replicate_succ, Array.replicate_zero, List.push_toArray, List.append_toArray, List.nil_append, List.cons_append]
    go_wp2_with fail
    refine markPost_ret (v := .tuple #[.slice none 0 0, .int .i64 2]) (fun W => by simp [results, Tryz.results78, go_sem]) rfl ?_
    rw [hR.out.1, hR.out.2]
    exact RetStrs.err rfl (Below.refl _ _)
  · have d1 : decide (most < 0) = false := by simpa using hneg
    by_cases hbig : 64 < most
    · have hR : Hid ((learnR bs most).1 = [] ∧ (learnR bs most).2 = 2) := by show _ ∧ _; unfold learnR; rw [if_pos (.inr hbig)]; exact ⟨rfl, rfl⟩
      have d2 : decide (64 < most) = true := by simpa using hbig
      refine calls_of_marks Tryz.func78 rfl ?_
      simp only [Tryz.ntmps78, List.size_toArray, List.length_cons, List.length_nil, Nat.reduceAdd, Nat.reduceSub, Array.replicate_succ, Array.replicate_zero, List.push_toArray, List.append_toArray, List.nil_append, List.cons_append]
      go_wp2_with fail
      refine markPost_ret (v := .tuple #[.slice none 0 0, .int .i64 2]) (fun W => by simp [results, Tryz.results78, go_sem]) rfl ?_
      rw [hR.out.1, hR.out.2]
      exact RetStrs.err rfl (Below.refl _ _)
    · have d2 : decide (64 < most) = false := by simpa using hbig
      have hR : Hid ((learnR bs most).1 = learnL bs most.toNat ∧ (learnR bs most).2 = 0) := by show _ ∧ _; unfold learnR; rw [if_neg (by omega)]; exact ⟨rfl, rfl⟩
      refine calls_of_marks Tryz.func78 rfl ?_
      simp only [Tryz.ntmps78, List.size_toArray, List.length_cons, List.length_nil, Nat.reduceAdd, Nat.reduceSub, Array.replicate_succ, Array.replicate_zero, List.push_toArray, List.append_toArray, List.nil_append, List.cons_append]
      go_wp2_with fail
      refine (pieces_any _ _ _ _).mono ?_
      rintro e w3 ⟨rfl, hw3⟩
      have Hw3 := Lib.hid hw3; clear hw3
      clear hmm
      go_wp2_with fail
      have hs3 : Hid (w3.heap.size = w.heap.size + 3) := by show _ = _; rw [Hw3.out]; simp
      have hbox0 : Boxed w3 (w.heap.size + 1) 154 (.map (some w.heap.size)) := by
        have := (Boxed.new (w.alloc (.map #[] 0)) 154 (.map (some w.heap.size))).alloc (.cells #[.slice A m c] 23)
        rw [World.size_alloc] at this
        rw [Hw3.out]; exact this
      have hbx3 : Boxed w3 (w.heap.size + 1 + 1) 23 (.slice A m c) := by
        have := Boxed.new ((w.alloc (.map #[] 0)).alloc (.cells #[.map (some w.heap.size)] 154)) 23 (.slice A m c)
        rw [World.size_alloc, World.size_alloc] at this
        rw [Hw3.out]; exact this
      have hI0 : LearnI w bs 0 w3 := by
        refine ⟨?_, hbox0, ?_⟩
        · rw [Hw3.out]
          exact ((MapIs.made w).below ((Below.refl _ _).alloc (Nat.le_refl _) _)).below ((Below.refl _ _).alloc (Nat.le_refl _) _) |>.cong (fun s => rfl)
        · rw [Hw3.out]
          exact (((Below.refl _ _).alloc (Nat.le_refl _) _).alloc (by simp) _).alloc (by simp; omega) _
      clear hbox0 Hw3
      obtain ⟨b, off, hA⟩ : ∃ b off, 0 < m → A = some ⟨b, off, none⟩ := by
        rcases Nat.eq_zero_or_pos m with h | h
        · exact ⟨0, 0, fun h' => absurd h' (by omega)⟩
        · obtain ⟨b, off, e, _⟩ := hy.get h
          exact ⟨b, off, fun _ => e⟩
      have HA := Lib.hid hA; clear hA
      refine wp_rangeFunc_row2 (G := fun u v t => (((t.setIfInBounds 22 u).setIfInBounds 23 v).setIfInBounds 7 u).setIfInBounds 8 v) (u := fun k => .slice (some ⟨b, off + stP bs k, none⟩) (plen (bs.drop (stP bs k))) (c - stP bs k)) (v := fun k => .bool (wdP bs k)) rfl (enters_of Tryz.func203 (by kernel_rfl) rfl) (pieces1_gives w A m c bs hy (by omega) (w.heap.size + 1 + 1) b off (by omega) HA.out)
        (fun o1 o2 => ⟨(hbx3.alloc _).alloc _, (hI0.below.alloc hI0.below.size _).alloc (by have := hI0.below.size; simp; omega) _⟩)
        (fun A B hab => KeepsFrom.of_grownBy hab (fun j e => by cases e; rw [hs3.out]; omega))
        (fun h1 h2 => ⟨h2.1.trans h1.1, h1.2.trans h2.2⟩)
        (fun W l o o' hl hlo ho => ⟨World.putObj_heap_other (by rw [hs3.out] at hl; omega), ((Below.refl _ _).grown (grownBy_putObj' W l o') (by have := (Array.getElem?_eq_some_iff.1 hlo).1; rw [hs3.out] at hl; omega) (fun k e => by cases e; rw [hs3.out] at hl; omega))⟩)
        (fun k W => LearnI w bs k W ∧ w.heap.size + 3 ≤ W.heap.size) (fun _ _ _ => False) ?hI (fun _ _ _ _ _ h _ _ => h.elim) ?hIA (fun _ _ _ _ h _ => h.elim) ⟨hI0, by rw [hs3.out]; omega⟩ ?assign ?body ?done (fun _ _ _ _ _ _ h _ => h.elim)
      case hI => exact fun s W W' row h hg hr => ⟨h.1.kept hg (fun r e => by have := (hr r e).1; rw [hs3.out] at this; omega), Nat.le_trans h.2 hg.size⟩
      case hIA => exact fun k A B h hab => ⟨h.1.kept hab (fun r e => by cases e; omega), Nat.le_trans h.2 hab.size⟩
      case assign =>
        intro l k W K hK
        simp only [List.setIfInBounds_toArray, List.set_cons_succ, List.set_cons_zero] at hK ⊢
        gi_wp2
        exact hK
      case body =>
        intro l k W hk hl hIs
        obtain ⟨hI, hsW⟩ := hIs
        have HI := Lib.hid hI
        obtain ⟨hmap, hmb, hbelW⟩ := hI
        simp only [List.setIfInBounds_toArray, List.set_cons_succ, List.set_cons_zero]
        have hm0 : 0 < m := by
          have := pieces_ne hk
          rcases Nat.eq_zero_or_pos m with h | h
          · have e : bs = [] := List.length_eq_zero_iff.1 (by rw [Hl.out]; exact h)
            rw [e] at this; simp at this
          · exact h
        have hpl := pieces_len bs
        rw [Hl.out] at hpl
        have hnext : wordsTo bs (k + 1) = wordsTo bs k ++ if wdP bs k then [pcP bs k] else [] := rfl
        by_cases hwd : wdP bs k = true
        · rw [hwd, if_pos rfl] at hnext
          have hpb := (pcP_bytes hy hk (HA.out hm0)).below hbelW
          have hle : (pcP bs k).length ≤ 65536 := by
            rw [pcP_length hk]; have := plen_le (pieces_ne hk); rw [List.length_drop, Hl.out] at this; omega
          have hlm : Hid ((pcP bs k).length ≤ maxLen) := by show _ ≤ _; simp [maxLen]; omega
          have s4 := hpb.str 23 5 9 uB Go.Proofs.YtohadkmaemmfgaaGreatDoor.Dic.u8 uS
          have q7 := hmb.cell
          have hget := cntF_get (wordsTo bs k) (pcP bs k)
          have hcl : (wordsTo bs k).count (pcP bs k) ≤ 65536 := by
            have := List.count_le_length (a := pcP bs k) (l := wordsTo bs k)
            have := wordsTo_le bs k
            omega
          have hnx := cntF_next (wordsTo bs k) (pcP bs k)
          rw [← hnext] at hnx
          rw [hwd]
          clear hnext hwd hmb
          have Hnx := Lib.hid hnx; clear hnx
          have Hget := Lib.hid hget; clear hget
          obtain ⟨ct, hct⟩ : ∃ ct, ct = (wordsTo bs k).count (pcP bs k) := ⟨_, rfl⟩
          rw [← hct] at Hnx Hget hcl
          clear hct
          have hkm : Hid (k < maxLen) := by show _ < _; simp [maxLen]; omega
          have hwf : Hid ((Lit.int .i64 ((ct : Int) + 1)).wf = true) := WalkArith.wf_i64 (by omega)
          gi_wp2_with (first
            | (gi_at_lookup; refine wpListIn_mapget rfl (.tmp 25) (.tmp 27) 154 rfl uS uMI uInt (zI _) rfl hmap (pcP bs k) hlm.out rfl ?_; rw [Hget.out])
            | (gi_at_mapUpdate; refine wpListIn_mapset rfl (.tmp 25) (.tmp 27) (.tmp 29) 154 rfl uS uMI uInt rfl hmap hkm.out (pcP bs k) hlm.out ((ct : Int) + 1) rfl rfl hwf.out ?_; intro W2 hm2 hg2))
          rw [hs3.out]
          obtain ⟨k1, k2, k3⟩ := HI.out.step (hm2.cong Hnx.out) hg2 hsW
          exact ⟨k1, k2, k3, Nat.le_trans hsW hg2.size⟩
        · have hwd' : wdP bs k = false := by simpa using hwd
          rw [hwd', if_neg (by simp)] at hnext
          rw [List.append_nil] at hnext
          have Hn := Lib.hid hnext
          rw [hwd']
          clear hnext hwd hwd'
          gi_wp2
          refine ⟨KeepsFrom.refl _ _, ⟨rfl, Below.refl _ _⟩, ⟨(HI.out.map.mono (Nat.le_succ k)).cong (fun s => by rw [Hn.out]), HI.out.mbox, HI.out.below⟩, hsW⟩
      case done =>
        intro D W hD hIs hdef
        obtain ⟨⟨hmap, hmb, hbelW⟩, hsW⟩ := hIs
        have q7 := hmb.cell
        rw [hs3.out] at hD
        have hDlt : D < W.heap.size := (Array.getElem?_eq_some_iff.1 hdef).1
        have hpl := pieces_len bs
        rw [Hl.out] at hpl
        go_wp2_with fail
        refine (keys_any _ _).mono ?_
        rintro e w4 ⟨rfl, hw4⟩
        have hs4 : Hid (w4.heap.size = W.heap.size + 1) := by show _ = _; rw [hw4]; simp
        have hb4 : Below W.heap.size W w4 := by rw [hw4]; exact (Below.refl _ _).alloc (Nat.le_refl _) _
        have hcol := collect_any _ _ _ W w4 hw4 hmap (by omega)
        have Hcol := Lib.hid hcol; clear hcol hw4
        go_wp2_with fail
        refine Hcol.out.mono ?_
        rintro e w5 ⟨A5, m5, c5, ss, rfl, ho5, hnd, hmem, hm5, hb5⟩
        have hsub : ∀ s ∈ ss, s.length ≤ 1000000 := fun s hs => by
          have h1 := (hmem s).1 hs
          unfold cntF at h1
          split at h1
          · rename_i h2; have := wordsTo_mem (Nat.le_refl _) s h2; rw [Hl.out] at this; omega
          · cases h1
        obtain ⟨xs, hxs⟩ : ∃ xs : List SW, xs.map (·.1) = ss := ⟨ss.attach.map (fun x => ⟨x.1, hsub x.1 x.2⟩), by simp⟩
        have hxl : xs.length = m5 := by have := congrArg List.length hxs; rw [List.length_map] at this; rw [this]; exact ho5.length
        have hrow5 : RowA w5 w4.heap.size A5 m5 c5 xs := by
          refine ⟨hxl, ho5.cap, ?_⟩
          rcases ho5.2 with ⟨h1, h2⟩ | ⟨g, cap, cur, h1, h2, h3, h4, h5, h6, h7⟩
          · injection h1 with h1 _ _
            exact .inl ⟨h1, h2⟩
          · injection h1 with h1 _ _
            refine .inr ⟨g, h1, h2, (Array.getElem?_eq_some_iff.1 h3).1, ?_⟩
            have hh := holds_of_block (ss := ss) h3 (by rw [ho5.length]; rw [Nat.mul_one] at h7; exact h7)
            intro j hj
            have hj' : j < xs.length := by simpa using hj
            have hj2 : j < ss.length := by rw [← hxs]; simpa using hj'
            have := hh j (by simpa using hj2)
            refine ⟨?_, this.2⟩
            rw [this.1, getElem!_pos _ j (by simpa using hj2), getElem!_pos _ j hj]
            simp only [List.getElem_toArray]
            subst hxs
            simp [encA, encS, encStr, strB]
        have hcnt5 : CountsB w5 w4.heap.size (w.heap.size + 1) w.heap.size (piecesL bs).length (fun s => (wordsL bs).count s) := by
          have h45 : Below W.heap.size W w5 := hb4.trans (hb5.mono (by rw [hs4.out]; omega))
          refine ⟨by rw [hs4.out]; omega, by rw [hs4.out]; omega, (h45.block _ (by omega)).trans hmb, _, hmap.same (h45.block _ (by omega)), fun s => cntF_get _ s, fun s => ?_⟩
          have h1 := List.count_le_length (a := s) (l := wordsL bs)
          have h2 : (wordsL bs).length ≤ _ := wordsTo_le bs (piecesL bs).length
          show (wordsL bs).count s ≤ 1000000
          omega
        have hB5 : w4.heap.size ≤ w5.heap.size := hb5.size
        have hdel := delete_any w5 w4.heap.size (w.heap.size + 1) w.heap.size _ _ A5 m5 c5 xs hB5 hrow5 hcnt5 (by omega)
        have Hdel := Lib.hid hdel; clear hdel
        have Hmem := Lib.hid hmem; clear hmem
        have Hxs := Lib.hid hxs; clear hxs
        have Hxl := Lib.hid hxl; clear hxl
        have Hsub := Lib.hid hsub; clear hsub
        go_wp2_with fail
        refine Hdel.out.mono ?_
        rintro e w6 ⟨A6, m6, c6, rfl, hrow6, hb6⟩
        have hcnt6 := hcnt5.same (W := w6) (fun k hk _ => hb6.block k hk)
        have hm6 : m6 ≤ m5 := by rw [← hrow6.1, ← Hxl.out]; exact List.length_filter_le _ _
        have hsort := sort_any w6 w4.heap.size (w.heap.size + 1) w.heap.size _ _ A6 m6 c6 _ (Nat.le_trans hB5 hb6.size) hrow6 hcnt6 (by omega)
        have Hsort := Lib.hid hsort; clear hsort
        go_wp2_with fail
        refine Hsort.out.mono ?_
        rintro e w7 ⟨rfl, ys, hp, hso, hrow7, hb7⟩
        obtain ⟨mo, hmo'⟩ : ∃ mo : Nat, most = (mo : Int) := ⟨most.toNat, by omega⟩
        have hrk := ranked_of hnd (fun s => by rw [Hmem.out s]; show ((if s ∈ wordsL bs then _ else none).isSome = true) ↔ s ∈ wordsL bs; by_cases h : s ∈ wordsL bs <;> simp [h]) Hxs.out hp hso
        have hfin : Hid ((ys.map (·.1)).take (min m6 mo) = learnL bs most.toNat) := by
          show _ = _
          rw [← hrk.learn, hmo', Int.toNat_natCast]
          have : (ys.map (·.1)).length = m6 := by rw [List.length_map]; exact hrow7.1
          rw [← this]
          rcases Nat.le_total (ys.map (·.1)).length mo with h | h
          · rw [Nat.min_eq_left h, List.take_length, List.take_of_length_le h]
          · rw [Nat.min_eq_right h]
        have Hmo := Lib.hid hmo'
        subst hmo'
        have hmn : min (m6 : Int) (mo : Int) = ((min m6 mo : Nat) : Int) := by omega
        have hst := hrow7.strs
        obtain ⟨r8, v8⟩ := hst.cut_h ((min m6 mo : Nat) : Int) (by omega) (by omega)
        rw [Int.toNat_natCast] at r8 v8
        obtain ⟨mq, hmq⟩ : ∃ mq, mq = min m6 mo := ⟨_, rfl⟩
        rw [← hmq] at hmn r8 v8 hfin
        clear hmq
        have hDef7 : w7.heap[D]? = some (.deferred (some [])) := by
          rw [hb7.block D (by rw [hs4.out]; omega), hb6.block D (by rw [hs4.out]; omega), hb5.block D (by rw [hs4.out]; omega), hb4.block D hDlt]
          exact hdef
        have hbW7 : Below w.heap.size w w7 := hbelW.trans ((hb4.mono (by omega)).trans ((hb5.mono (by rw [hs4.out]; omega)).trans ((hb6.mono (by rw [hs4.out]; omega)).trans (hb7.mono (by rw [hs4.out]; omega)))))
        have HDef := Lib.hid hDef7; clear hDef7
        clear hst
        go_wp2_with fail
        refine markPost_mark HDef.out (v := .tuple #[.slice A6 mq c6, .int .i64 0]) (fun W => by simp [results, Tryz.results78, go_sem]) rfl ?_
        rw [hR.out.1, hR.out.2, ← hfin.out]
        refine RetStrs.mk rfl ?_ (hbW7.grown (grownBy_putObj' w7 D _) hbW7.size (fun k e => by cases e; omega))
        have h8 := (hrow7.putObj (D := D) (by rw [hs4.out]; omega) (.deferred none)).strs
        have h9 := h8.cut_h (mq : Int) (by omega) (by have := v8.2.1; have := v8.1; simp at this; omega)
        rw [Int.toNat_natCast] at h9
        exact h9.2
theorem learnP_long (A : Option Addr) (c m : Nat) (most : Int) (w : World) (hm : 65536 < m) (hm2 : m ≤ 1000000000) :
    Calls Tryz.prog 78 #[.slice A m c, .int .i64 most] w (RetStrs w [] 5) := by
  have d65 : decide ((65536 : Int) < (m : Int)) = true := by simp; omega
  have d65' : decide (65536 < m) = true := by simp; omega
  refine calls_of_marks Tryz.func78 rfl ?_
  simp only [Tryz.ntmps78, List.size_toArray, List.length_cons, List.length_nil, Nat.reduceAdd, Nat.reduceSub, Array.replicate_succ, Array.replicate_zero, List.push_toArray, List.append_toArray, List.nil_append, List.cons_append]
  go_wp2_with fail
  refine markPost_ret (v := .tuple #[.slice none 0 0, .int .i64 5]) (fun W => by simp [results, Tryz.results78, go_sem]) rfl ?_
  exact RetStrs.err rfl (Below.refl _ _)
end Go.Proofs.YtohadkmaemmfgaaGreatDoor.Dic
namespace Go.Proofs.YtohadkmaemmfgaaGreatDoor.Dic
open Go.RowKit Go.Proofs Go.Sort
set_option linter.unusedVariables false
theorem words_len {bs : List UInt8} {k : Nat} (h : k < (wordsL bs).length) : (gs (wordsL bs) k).length ≤ bs.length := by
  rw [gs_get h]; exact wordsTo_mem (Nat.le_refl _) _ (List.getElem_mem h)
theorem best_next_skip {ws out : List (List UInt8)} {k : Nat} (h : isWordB (gs ws k) = false ∨ gs ws k ∈ out) : bestTo ws out (k + 1) = bestTo ws out k := by rw [bestTo, if_pos h]
theorem best_next_take {ws out : List (List UInt8)} {k : Nat} (h1 : isWordB (gs ws k) = true) (h2 : gs ws k ∉ out) (h : (bestTo ws out k).2 < gainS ws (gs ws k) ∨ (gainS ws (gs ws k) = (bestTo ws out k).2 ∧ 0 < gainS ws (gs ws k) ∧ gs ws k < (bestTo ws out k).1)) : bestTo ws out (k + 1) = (gs ws k, gainS ws (gs ws k)) := by
  rw [bestTo, if_neg (by rw [h1]; simpa using h2), if_pos h]
theorem best_next_keep {ws out : List (List UInt8)} {k : Nat} (h1 : isWordB (gs ws k) = true) (h2 : gs ws k ∉ out) (h : ¬ ((bestTo ws out k).2 < gainS ws (gs ws k) ∨ (gainS ws (gs ws k) = (bestTo ws out k).2 ∧ 0 < gainS ws (gs ws k) ∧ gs ws k < (bestTo ws out k).1))) : bestTo ws out (k + 1) = bestTo ws out k := by
  rw [bestTo, if_neg (by rw [h1]; simpa using h2), if_neg h]
def RetOwn (B : Nat) (w : World) (xs : List UInt8) (e : Ending) (w' : World) : Prop := ∃ A n c, e = .returned (.slice A n c) ∧ Own encB w' B 5 A n c xs ∧ Below B w w'
theorem RetOwn.mk {B : Nat} {w w' : World} {xs : List UInt8} {A : Option Addr} {n c : Nat} (h : Own encB w' B 5 A n c xs) (hb : Below B w w') : RetOwn B w xs (.returned (.slice A n c)) w' := ⟨A, n, c, rfl, h, hb⟩
theorem number_any (n : Nat) (w : World) (hn : n ≤ 9007199254740991) : Calls Tryz.prog 213 #[.int .i64 (n : Int)] w fun e w' => e = .returned (.int .i64 (n : Int)) ∧ w' = w := by
  have d1 : decide ((n : Int) < 0) = false := by simp
  have d2 : decide ((9007199254740991 : Int) < (n : Int)) = false := by simp; omega
  go_enter Tryz.func213, Tryz.ntmps213
  go_wp2
  go_ret
  exact ⟨rfl, rfl⟩
def furL (n : Nat) : Nat := (Lib.bitLen n - 1) / 7
theorem further_any (n : Nat) (w : World) (hn : n < 4611686018427387904) : Calls Tryz.prog 150 #[.int .i64 (n : Int)] w fun e w' => e = .returned (.int .i64 ((furL n : Nat) : Int)) ∧ w' = w := by
  have hcal := Tryz.bits_Len (n : Int) w (by omega) (by omega)
  rw [Int.toNat_natCast] at hcal
  have Hcal := Lib.hid hcal; clear hcal
  have hbl : Lib.bitLen n ≤ 62 := Lib.bitLen_le n 62 (by omega) (by omega)
  have hf : Hid (furL n = (Lib.bitLen n - 1) / 7) := rfl
  obtain ⟨bl, hb⟩ : ∃ bl, bl = Lib.bitLen n := ⟨_, rfl⟩
  rw [← hb] at Hcal hbl hf
  clear hb
  have hw : IntKind.u64.wrap (n : Int) = (n : Int) := by simp [IntKind.wrap, IntKind.bits, IntKind.signed]; omega
  go_enter Tryz.func150, Tryz.ntmps150
  go_wp2_with fail
  refine Hcal.out.mono ?_
  rintro e w1 ⟨rfl, hw1⟩
  obtain rfl : w = w1 := hw1.symm
  go_wp2_with fail
  go_ret
  exact ⟨ret_int (by rw [hf.out]; omega), rfl⟩
theorem furL_small {n : Nat} (h : n ≤ 127) : furL n = 0 := by
  have : Lib.bitLen n ≤ 7 := Lib.bitLen_le n 7 (by omega) (by omega)
  unfold furL; omega
theorem or_zero_u8 : ∀ k : Fin 128, bits BinOp.or IntKind.u8 0 (k.val : Int) = (k.val : Int) := by decide +kernel
theorem put_small (B : Nat) (A : Option Addr) (m c : Nat) (xs : List UInt8) (n : Nat) (w : World) (hown : Own encB w B 5 A m c xs) (hB : B ≤ w.heap.size) (hm : m ≤ 1000000) (hn : n ≤ 127) :
    Calls Tryz.prog 146 #[.slice A m c, .int .i64 (n : Int)] w (RetOwn B w (xs ++ [UInt8.ofNat n])) := by
  have h1 := Lib.hid (number_any n w (by omega))
  have h2 := further_any n w (by omega)
  rw [furL_small hn] at h2
  have H2 := Lib.hid h2; clear h2
  have hor : bits BinOp.or IntKind.u8 0 (n : Int) = (n : Int) := or_zero_u8 ⟨n, by omega⟩
  have hv : Hid (encB (UInt8.ofNat n) = .int .u8 (n : Int)) := by show _ = _; unfold encB; rw [UInt8.toNat_ofNat', Nat.mod_eq_of_lt (by omega)]
  have m1 : Hid (m + 1 ≤ maxLen ∧ (m + 1) * 1 ≤ 140737488355328) := ⟨by simp [maxLen]; omega, by omega⟩
  go_enter Tryz.func146, Tryz.ntmps146
  go_wp2_with (first
    | (go_at_call 213; refine h1.out.mono ?_; rintro e w1 ⟨rfl, hw1⟩; obtain rfl : w = w1 := hw1.symm)
    | (go_at_call 150; refine H2.out.mono ?_; rintro e w1 ⟨rfl, hw1⟩; obtain rfl : w = w1 := hw1.symm)
    | (at_builtin; refine wpList_pushv (enc := encB) rfl (.tmp 15) (.tmp 23) rfl uB infoB encB_one rfl rfl hown hB (UInt8.ofNat n) _ hv.out rfl m1.out.1 m1.out.2 ?_; intro A6 c6 W6 ho6 hb6))
  refine wp_loop_rounds 1 ?_
  rw [rounds_succ]
  go_wp2_with fail
  go_ret
  exact RetOwn.mk ho6 hb6
theorem own_empty (w : World) (e : TypeId) : Own encB (w.alloc (.cells #[] e)) w.heap.size e (some ⟨w.heap.size, 0, none⟩) 0 0 [] :=
  ⟨rfl, .inr ⟨w.heap.size, 0, #[], rfl, Nat.le_refl _, World.alloc_heap_new w _, Nat.le_refl _, by simp [maxLen], rfl, rfl⟩⟩
theorem clone_any (A : Option Addr) (m c : Nat) (xs : List UInt8) (w : World) (hx : Bytes w A m c xs) (hm : m ≤ 1000000) :
    Calls Tryz.prog 17 #[.slice A m c] w (RetOwn w.heap.size w xs) := by
  apply Go.Proofs.YtohadkmaemmfgaaGreatDoor.clone_any <;> assumption
theorem putInt_small (A : Option Addr) (m c : Nat) (xs : List UInt8) (n : Nat) (w : World) (hx : Bytes w A m c xs) (hm : m ≤ 900000) (hn : n ≤ 127) :
    Calls Tryz.prog 80 #[.slice A m c, .int .i64 (n : Int)] w (RetOwn w.heap.size w (xs ++ [UInt8.ofNat n])) := by
  have hcal := Lib.hid (clone_any A m c xs w hx (by omega))
  have Hm := Lib.hid hx.1
  go_enter Tryz.func80, Tryz.ntmps80
  go_wp2_with fail
  refine hcal.out.mono ?_
  rintro e w1 ⟨A1, n1, c1, rfl, ho1, hb1⟩
  have hn1 : n1 ≤ 900000 := by rw [← ho1.length, Hm.out]; exact hm
  have hcal2 := Lib.hid (put_small w.heap.size A1 n1 c1 xs n w1 ho1 hb1.size (by omega) hn)
  go_wp2_with fail
  refine hcal2.out.mono ?_
  rintro e w2 ⟨A2, n2, c2, rfl, ho2, hb2⟩
  go_wp2_with fail
  go_ret
  exact RetOwn.mk ho2 (hb1.trans hb2)
theorem one_any (B : Nat) (A : Option Addr) (m c : Nat) (xs : List UInt8) (y : UInt8) (w : World) (hown : Own encB w B 5 A m c xs) (hB : B ≤ w.heap.size) (hm : m ≤ 1000000) :
    Calls Tryz.prog 147 #[.slice A m c, .int .u8 (y.toNat : Int)] w (RetOwn B w (xs ++ [y])) := by
  have m1 : Hid (m + 1 ≤ maxLen ∧ (m + 1) * 1 ≤ 140737488355328) := ⟨by simp [maxLen]; omega, by omega⟩
  go_enter Tryz.func147, Tryz.ntmps147
  go_wp2_with (at_builtin; refine wpList_pushv (enc := encB) rfl (.tmp 5) (.tmp 7) rfl uB infoB encB_one rfl rfl hown hB y _ rfl rfl m1.out.1 m1.out.2 ?_; intro A6 c6 W6 ho6 hb6)
  go_ret
  exact RetOwn.mk ho6 hb6
theorem list_small (A A' : Option Addr) (m c n c' : Nat) (xs ys : List UInt8) (w : World) (hx : Bytes w A m c xs) (hy : Bytes w A' n c' ys) (hm : m ≤ 800000) (hn : n ≤ 127) :
    Calls Tryz.prog 148 #[.agg #[.func (.func 147) #[] #[]], .slice A m c, .slice A' n c'] w (RetOwn w.heap.size w (xs ++ (UInt8.ofNat n :: ys))) := by
  have Hm := Lib.hid hx.1
  have Hn := Lib.hid hy.1
  go_enter Tryz.func148, Tryz.ntmps148
  have hb0 : Below w.heap.size w (w.alloc (.cells #[.func (.func 147) #[] #[]] 172)) := (Below.refl _ _).alloc (Nat.le_refl _) _
  have hbox0 := Boxed.new w 172 (.func (.func 147) #[] #[])
  go_wp2_with fail
  obtain ⟨w0, hw0⟩ : ∃ w0, w0 = w.alloc (.cells #[.func (.func 147) #[] #[]] 172) := ⟨_, rfl⟩
  rw [← hw0] at hb0 hbox0 ⊢
  clear hw0
  have hcal := Lib.hid (clone_any A m c xs w0 (hx.below hb0) (by omega))
  refine hcal.out.mono ?_
  rintro e w1 ⟨A1, n1, c1, rfl, ho1, hb1⟩
  have hn1 : n1 ≤ 800000 := by rw [← ho1.length, Hm.out]; exact hm
  have hcal2 := Lib.hid (put_small w0.heap.size A1 n1 c1 xs n w1 ho1 hb1.size (by omega) hn)
  clear hcal
  go_wp2_with fail
  refine hcal2.out.mono ?_
  rintro e w2 ⟨A2, n2, c2, rfl, ho2, hb2⟩
  have hb02 : Below w0.heap.size w0 w2 := hb1.trans hb2
  have hn2 : n2 ≤ 800001 := by rw [← ho2.length, List.length_append, Hm.out]; simp; omega
  clear hcal2
  go_wp2_with fail
  go_loopw [1, 8, 16] (fun o _ i wr => ∃ (k : Nat) (A3 : Option Addr) (n3 c3 : Nat), k ≤ n ∧ i = .int .i64 (k : Int) ∧ o = .slice A3 n3 c3 ∧ n3 ≤ 800001 + k ∧ Own encB wr w0.heap.size 5 A3 n3 c3 (xs ++ (UInt8.ofNat n :: ys.take k)) ∧ Below w0.heap.size w0 wr) (fun _ _ i _ => n - (intOf i).toNat)
  case atStart => exact ⟨0, A2, n2, c2, Nat.zero_le _, rfl, rfl, by omega, by simpa using ho2, hb02⟩
  case round =>
    obtain ⟨k, A3, n3, c3, hk, rfl, rfl, hn3, ho3, hb3⟩ := hrel
    by_cases hlt : k < n
    · have dk : decide ((k : Int) < (n : Int)) = true := by simp; omega
      have dk' : decide (k < n) = true := by simp; omega
      have hyr := (hy.below hb0).below hb3
      have hq := (Boxed.below' hbox0 hb3 hbox0.lt).cell
      obtain ⟨b4, off4, rfl, hb4, hc4⟩ := hyr.get hlt
      have c4 := hc4 k hlt
      clear hc4
      have hgb : gb ys k = ((ys.getD k 0).toNat : Int) := rfl
      rw [hgb] at c4
      have hcal3 := Lib.hid (one_any w0.heap.size A3 n3 c3 _ (ys.getD k 0) wr ho3 hb3.size (by omega))
      have hnx : Hid (ys.take (k + 1) = ys.take k ++ [ys.getD k 0]) := by
        show _ = _
        have hk' : k < ys.length := by rw [Hn.out]; exact hlt
        rw [List.take_succ_eq_append_getElem hk']; simp [List.getD, hk']
      clear hgb
      go_wp2_with fail
      refine hcal3.out.mono ?_
      rintro e w5 ⟨A5, n5, c5, rfl, ho5, hb5⟩
      have hn5 : Hid (n5 = n3 + 1) := by show _ = _; have h1 := ho5.length; have h2 := ho3.length; rw [List.length_append, h2] at h1; simp at h1; omega
      go_wp2_with fail
      go_roundw
      case rel => exact ⟨k + 1, A5, n5, c5, by omega, by go_num, rfl, by rw [hn5.out]; omega, by rw [hnx.out]; simpa using ho5, hb3.trans hb5⟩
      case measure => simp [intOf]; omega
    · have dk : decide ((k : Int) < (n : Int)) = false := by simp; omega
      have dk' : decide (k < n) = false := by simp; omega
      have hnx : Hid (ys.take k = ys) := List.take_of_length_le (by rw [Hn.out]; omega)
      go_wp2_with fail
      go_ret
      rw [hnx.out] at ho3
      exact RetOwn.mk (ho3.mono hb0.size) (hb0.trans (hb3.mono hb0.size))
theorem putText_small (A : Option Addr) (m c : Nat) (xs ys : List UInt8) (w : World) (hx : Bytes w A m c xs) (hm : m ≤ 800000) (hn : ys.length ≤ 127) :
    Calls Tryz.prog 81 #[.slice A m c, .string (strB ys)] w (RetOwn w.heap.size w (xs ++ (UInt8.ofNat ys.length :: ys))) := by
  obtain ⟨c5, w1, hr, hb, hbel⟩ := conv_bytes (P := Tryz.prog) 9 23 5 uS uB u8 w ys
  have hcal := Lib.hid (list_small A _ m c _ c5 xs ys w1 (hx.below hbel) hb hm hn)
  go_enter Tryz.func81, Tryz.ntmps81
  go_wp2_with fail
  refine hcal.out.mono ?_
  rintro e w2 ⟨A2, n2, c2, rfl, ho2, hb2⟩
  go_wp2_with fail
  go_ret
  exact RetOwn.mk (ho2.mono hbel.size) (hbel.trans (hb2.mono hbel.size))
end Go.Proofs.YtohadkmaemmfgaaGreatDoor.Dic
