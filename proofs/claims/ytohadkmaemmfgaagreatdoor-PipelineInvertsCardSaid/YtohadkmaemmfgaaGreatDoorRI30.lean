/- Dm Dn Do Dt Du Dv Ek. -/
import Derived.Test.YtohadkmaemmfgaaGreatDoorRI29
import Derived.Test.YtohadkmaemmfgaaGreatDoorRI06
import Derived.Sort.OwnSorted
import Derived.Test.YtohadkmaemmfgaaGreatDoorRI09
import Derived.WalkSpells
import Derived.Lib.SlBytesConst
set_option maxRecDepth 100000
set_option maxHeartbeats 4000000
namespace Go.Proofs.YtohadkmaemmfgaaGreatDoor.Dic
open Go.RowKit Go.Proofs Go.Sort Go.Shelf
set_option linter.unusedVariables false
abbrev SW := { s : List UInt8 // s.length ≤ 1000000 }
instance : Inhabited SW := ⟨⟨[], by simp⟩⟩
def encA (x : SW) : Value := encS x.1
def RowA (w : World) (B : Nat) (A : Option Addr) (m c : Nat) (xs : List SW) : Prop :=
  xs.length = m ∧ m ≤ c ∧ ((A = none ∧ m = 0) ∨ ∃ g, A = some ⟨g, 0, none⟩ ∧ B ≤ g ∧ g < w.heap.size ∧ Holds encA w g 0 xs.toArray)
theorem RowA.strs {w : World} {B : Nat} {A : Option Addr} {m c : Nat} {xs : List SW} (h : RowA w B A m c xs) : Strs w A m c (xs.map (·.1)) := by
  obtain ⟨h1, h2, h3⟩ := h
  refine ⟨by simpa using h1, h2, fun hm => ?_⟩
  rcases h3 with ⟨_, h⟩ | ⟨g, rfl, _, hlt, hH⟩
  · omega
  · refine ⟨g, 0, rfl, hlt, fun i hi => ?_⟩
    have := (hH i (by simpa [h1] using hi)).1
    rw [this]
    have hi' : i < xs.length := by omega
    simp [encA, encS, gs, List.getD, hi']
def CountsB (w : World) (B Bm M n : Nat) (c : List UInt8 → Nat) : Prop := Bm < B ∧ M < B ∧ Boxed w Bm 154 (.map (some M)) ∧ ∃ f, MapIs Tryz.prog 9 3 .i64 w M n f ∧ (∀ s, (f s).getD 0 = (c s : Int)) ∧ ∀ s, c s ≤ 1000000
theorem CountsB.same {w W : World} {B Bm M n : Nat} {c : List UInt8 → Nat} (h : CountsB w B Bm M n c) (hb : ∀ k, k < B → k < w.heap.size → W.heap[k]? = w.heap[k]?) : CountsB W B Bm M n c := by
  obtain ⟨h1, h2, h3, f, h4, h5⟩ := h
  exact ⟨h1, h2, (hb _ h1 h3.lt).trans h3, f, h4.same (hb _ h2 h4.lt), h5⟩
theorem CountsB.counts {w : World} {B Bm M n : Nat} {c : List UInt8 → Nat} (h : CountsB w B Bm M n c) : Counts w Bm M n c := by
  obtain ⟨h1, h2, h3, f, h4, h5⟩ := h
  exact ⟨f, h3.cell, h4, h5⟩
end Go.Proofs.YtohadkmaemmfgaaGreatDoor.Dic
namespace Go.Proofs.YtohadkmaemmfgaaGreatDoor.Dic
open Go.RowKit Go.Proofs Go.Sort Go.Shelf
set_option linter.unusedVariables false
attribute [local go_sem] Oper.semAt_some
def cntF (ws : List (List UInt8)) : List UInt8 → Option Int := fun s => if s ∈ ws then some (ws.count s : Int) else none
structure LearnI (w : World) (bs : List UInt8) (k : Nat) (W : World) : Prop where
  map : MapIs Tryz.prog 9 3 .i64 W w.heap.size k (cntF (wordsTo bs k))
  mbox : Boxed W (w.heap.size + 1) 154 (.map (some w.heap.size))
  below : Below w.heap.size w W
theorem LearnI.kept {w W W' : World} {bs : List UInt8} {k : Nat} {row : Option Nat} (h : LearnI w bs k W) (hg : W.grownBy W' row) (hrow : ∀ r, row = some r → w.heap.size + 2 ≤ r) : LearnI w bs k W' := by
  obtain ⟨h1, h2, h5⟩ := h
  have ne : ∀ j, j < w.heap.size + 2 → some j ≠ row := fun j hj e => by have := hrow j e.symm; omega
  exact ⟨h1.same (hg.block _ h1.lt (ne _ (by omega))), h2.kept hg (ne _ (by omega)), h5.grown hg h5.size (fun r e => by have := hrow r e; omega)⟩
theorem LearnI.step {w W W' : World} {bs : List UInt8} {k : Nat} (h : LearnI w bs k W) (hm : MapIs Tryz.prog 9 3 .i64 W' w.heap.size (k + 1) (cntF (wordsTo bs (k + 1)))) (hg : W.grownBy W' (some w.heap.size)) (hs : w.heap.size + 3 ≤ W.heap.size) :
    KeepsFrom (w.heap.size + 3) W W' ∧ pcKp w.heap.size (w.heap.size + 1 + 1) W W' ∧ LearnI w bs (k + 1) W' :=
  ⟨KeepsFrom.of_grownBy hg (fun j e => by cases e; omega), ⟨hg.block _ (by omega) (fun e => by injection e with e; omega), (Below.refl _ _).grown hg (by omega) (fun k e => by cases e; omega)⟩, hm, h.mbox.kept hg (by simp), h.below.grown hg h.below.size (fun k e => by cases e; omega)⟩
def RetStrs (w : World) (ss : List (List UInt8)) (x : Int) (e : Ending) (w' : World) : Prop := ∃ A n c, e = .returned (.tuple #[.slice A n c, .int .i64 x]) ∧ Strs w' A n c ss ∧ Below w.heap.size w w'
theorem Strs.nil (w : World) (c : Nat) : Strs w none 0 c [] := ⟨rfl, Nat.zero_le _, fun h => absurd h (by omega)⟩
theorem RetStrs.mk {w w' : World} {ss : List (List UInt8)} {x x' : Int} {A : Option Addr} {n c : Nat} (hx : x = x') (h : Strs w' A n c ss) (hb : Below w.heap.size w w') : RetStrs w ss x' (.returned (.tuple #[.slice A n c, .int .i64 x])) w' := by
  subst hx
  exact ⟨A, n, c, rfl, h, hb⟩
theorem RetStrs.err {w w' : World} {x x' : Int} (hx : x = x') (hb : Below w.heap.size w w') : RetStrs w [] x' (.returned (.tuple #[.slice none 0 0, .int .i64 x])) w' := RetStrs.mk hx (Strs.nil _ _) hb
theorem RowA.putObj {w : World} {B : Nat} {A : Option Addr} {m c : Nat} {xs : List SW} (h : RowA w B A m c xs) {D : Nat} (hD : D < B) (o : Obj) : RowA (w.putObj D o) B A m c xs := by
  obtain ⟨h1, h2, h3⟩ := h
  refine ⟨h1, h2, ?_⟩
  rcases h3 with h3 | ⟨g, rfl, hg, hlt, hH⟩
  · exact .inl h3
  · have e : (w.putObj D o).heap[g]? = w.heap[g]? := World.putObj_heap_other (by omega)
    refine .inr ⟨g, rfl, hg, Nat.lt_of_lt_of_le hlt (grownBy_putObj' w D o).size, fun j hj => ?_⟩
    have := hH j hj
    unfold World.cell? World.frozen? at *
    simp only at *
    rw [e]
    exact this
end Go.Proofs.YtohadkmaemmfgaaGreatDoor.Dic
namespace Go.Proofs.YtohadkmaemmfgaaGreatDoor.Dic
open Go.RowKit Go.Proofs Go.Sort
set_option linter.unusedVariables false

def RetOwn (B : Nat) (w : World) (xs : List UInt8) (e : Ending) (w' : World) : Prop := ∃ A n c, e = .returned (.slice A n c) ∧ Own encB w' B 5 A n c xs ∧ Below B w w'
theorem RetOwn.mk {B : Nat} {w w' : World} {xs : List UInt8} {A : Option Addr} {n c : Nat} (h : Own encB w' B 5 A n c xs) (hb : Below B w w') : RetOwn B w xs (.returned (.slice A n c)) w' := ⟨A, n, c, rfl, h, hb⟩
theorem number_any (n : Nat) (w : World) (hn : n ≤ 9007199254740991) : Calls Tryz.prog 213 #[.int .i64 (n : Int)] w fun e w' => e = .returned (.int .i64 (n : Int)) ∧ w' = w := by
  have d1 : decide ((n : Int) < 0) = false := by simp
  have d2 : decide ((9007199254740991 : Int) < (n : Int)) = false := by simp; omega
  go_enter Tryz.func213, Tryz.ntmps213
  go_wp2
  go_ret
  exact ⟨rfl, rfl⟩
def furL (n : Nat) : Nat := (Lib.bitLen n - 1) / 7
theorem further_any (n : Nat) (w : World) (hn : n < 4611686018427387904) : Calls Tryz.prog 150 #[.int .i64 (n : Int)] w fun e w' => e = .returned (.int .i64 ((furL n : Nat) : Int)) ∧ w' = w := by
  have hcal := Tryz.bits_Len (n : Int) w (by omega) (by omega)
  rw [Int.toNat_natCast] at hcal
  have Hcal := Lib.hid hcal; clear hcal
  have hbl : Lib.bitLen n ≤ 62 := Lib.bitLen_le n 62 (by omega) (by omega)
  have hf : Hid (furL n = (Lib.bitLen n - 1) / 7) := rfl
  obtain ⟨bl, hb⟩ : ∃ bl, bl = Lib.bitLen n := ⟨_, rfl⟩
  rw [← hb] at Hcal hbl hf
  clear hb
  have hw : IntKind.u64.wrap (n : Int) = (n : Int) := by simp [IntKind.wrap, IntKind.bits, IntKind.signed]; omega
  go_enter Tryz.func150, Tryz.ntmps150
  go_wp2_with fail
  refine Hcal.out.mono ?_
  rintro e w1 ⟨rfl, hw1⟩
  obtain rfl : w = w1 := hw1.symm
  go_wp2_with fail
  go_ret
  exact ⟨ret_int (by rw [hf.out]; omega), rfl⟩
theorem own_empty (w : World) (e : TypeId) : Own encB (w.alloc (.cells #[] e)) w.heap.size e (some ⟨w.heap.size, 0, none⟩) 0 0 [] :=
  ⟨rfl, .inr ⟨w.heap.size, 0, #[], rfl, Nat.le_refl _, World.alloc_heap_new w _, Nat.le_refl _, by simp [maxLen], rfl, rfl⟩⟩
theorem clone_any (A : Option Addr) (m c : Nat) (xs : List UInt8) (w : World) (hx : Bytes w A m c xs) (hm : m ≤ 1000000) :
    Calls Tryz.prog 17 #[.slice A m c] w (RetOwn w.heap.size w xs) := by
  apply Go.Proofs.YtohadkmaemmfgaaGreatDoor.clone_any <;> assumption
theorem one_any (B : Nat) (A : Option Addr) (m c : Nat) (xs : List UInt8) (y : UInt8) (w : World) (hown : Own encB w B 5 A m c xs) (hB : B ≤ w.heap.size) (hm : m ≤ 1000000) :
    Calls Tryz.prog 147 #[.slice A m c, .int .u8 (y.toNat : Int)] w (RetOwn B w (xs ++ [y])) := by
  have m1 : Hid (m + 1 ≤ maxLen ∧ (m + 1) * 1 ≤ 140737488355328) := ⟨by simp [maxLen]; omega, by omega⟩
  go_enter Tryz.func147, Tryz.ntmps147
  go_wp2_with (at_builtin; refine wpList_pushv (enc := encB) rfl (.tmp 5) (.tmp 7) rfl uB infoB encB_one rfl rfl hown hB y _ rfl rfl m1.out.1 m1.out.2 ?_; intro A6 c6 W6 ho6 hb6)
  go_ret
  exact RetOwn.mk ho6 hb6

theorem balloc {w w1 : World} (h : Below w.heap.size w w1) (o : Obj) : Below w.heap.size w (w1.alloc o) := h.alloc h.size o
def hiC (l : List UInt8) : Nat := l.countP (fun b => decide (128 ≤ b.toNat))
end Go.Proofs.YtohadkmaemmfgaaGreatDoor.Dic
