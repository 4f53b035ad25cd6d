/- The assembler's reader: what a method leaves; name. -/
import Derived.Test.YtlbhggjkcfcobaaDoorAo
namespace Go.Proofs.YtlbhggjkcfcobaaDoor
open Go.RowKit Go.Proofs
set_option linter.unusedVariables false

theorem cell_rowV {w : World} {g : Nat} {t : TypeId} {cs : Array Value} (h : rowV w g t cs) {j : Nat} {v : Value} (hj : cs[j]? = some v) : w.cell? ⟨g, j, none⟩ = some v := by
  unfold rowV at h
  simp [World.cell?, h, hj]
def wdV (x : Wd) : Value := .agg #[.string (strB x.1), .int .i64 (x.2 : Int)]
/-- what a method of the reader leaves that only reads words. -/
def NxW (B g n : Nat) (v2 v3 v4 v5 v6 v7 : Value) (ws : List Wd) (w w' : World) : Prop := ∃ A k c, k ≤ 9000 ∧ rowV w' g 73 (rdC A k c n v2 v3 v4 v5 v6 v7) ∧ WordsM B w' A k c ws ∧ w.grownBy w' (some g)
/-- a call that leaves with an error at a place. -/
def FailsB (B : Nat) (w : World) (at_ e : Int) (en : Ending) (w' : World) : Prop := en = .panicked [{ v := failV at_ e, recovered := false }] ∧ Below B w w'
theorem grownBy.setNew {w X : World} {row : Option Nat} (h : w.grownBy X row) {p : Addr} (hp : w.heap.size ≤ p.block) (v : Value) : w.grownBy (X.setCell p v) row :=
  ⟨h.os, h.tape, h.output, by simpa [World.setCell] using h.size, fun k hk hr => (Below.heap_setCell X p v k (by omega)).trans (h.block k hk hr)⟩
theorem grownBy.below' {w X Y : World} {row : Option Nat} (h : w.grownBy X row) (hb : Below X.heap.size X Y) : w.grownBy Y row :=
  ⟨hb.os.trans h.os, hb.tape.trans h.tape, hb.output.trans h.output, Nat.le_trans h.size hb.size, fun k hk hr => (hb.block k (Nat.lt_of_lt_of_le hk h.size)).trans (h.block k hk hr)⟩
theorem Below.ofGrown {B g : Nat} {w X : World} (h : w.grownBy X (some g)) (hB : B ≤ g) (hs : B ≤ w.heap.size) : Below B w X :=
  ⟨h.os, h.tape, h.output, h.size, fun k hk => h.block k (by omega) (fun e => by injection e with e; omega)⟩
theorem rowV.setFar {w : World} {g : Nat} {t : TypeId} {cs : Array Value} (h : rowV w g t cs) {p : Addr} (hp : g ≠ p.block) (v : Value) : rowV (w.setCell p v) g t cs := (Below.heap_setCell w p v g hp).trans h
theorem WordsM.setFar {B : Nat} {w : World} {A : Option Addr} {n c : Nat} {l : List Wd} (h : WordsM B w A n c l) {p : Addr} (hp : B ≤ p.block) (v : Value) : WordsM B (w.setCell p v) A n c l :=
  h.below ⟨rfl, rfl, rfl, by simp [World.setCell], fun k hk => Below.heap_setCell w p v k (by omega)⟩
def lettS : List UInt8 := [97, 98, 99, 100, 101, 102, 103, 104, 105, 106, 107, 108, 109, 110, 111, 112, 113, 114, 115, 116, 117, 118, 119, 120, 121, 122]
def nameS : List UInt8 := [97, 98, 99, 100, 101, 102, 103, 104, 105, 106, 107, 108, 109, 110, 111, 112, 113, 114, 115, 116, 117, 118, 119, 120, 121, 122, 48, 49, 50, 51, 52, 53, 54, 55, 56, 57, 95]
theorem lettS_iff (b : UInt8) : lettS.contains b = (97 ≤ b && b ≤ 122) := by
  have : ∀ c : Fin 256, lettS.contains (UInt8.ofNat c.val) = (97 ≤ (UInt8.ofNat c.val) && (UInt8.ofNat c.val) ≤ 122 : Bool) := by decide +kernel
  have := this ⟨b.toNat, b.toNat_lt⟩
  simpa using this
theorem nameS_iff (b : UInt8) : nameS.contains b = nameChar b := by
  have : ∀ c : Fin 256, nameS.contains (UInt8.ofNat c.val) = nameChar (UInt8.ofNat c.val) := by decide +kernel
  have := this ⟨b.toNat, b.toNat_lt⟩
  simpa using this
theorem nameL_eq {x : List UInt8} (h0 : 0 < x.length) : nameL x = (decide (x.length ≤ 32) && onlyL (x.take 1) lettS && onlyL x nameS && !(declB x) && !(findL x).isSome) := by
  unfold nameL declB onlyL
  rw [show x.all nameChar = x.all (fun b => nameS.contains b) from by congr 1; funext b; exact (nameS_iff b).symm]
  cases x with
  | nil => simp at h0
  | cons b t =>
    simp only [List.head?_cons, List.take_succ_cons, List.take_zero, List.all_cons, List.all_nil, Bool.and_true]
    rw [lettS_iff b]
    have : decide (1 ≤ (b :: t).length ∧ (b :: t).length ≤ 32) = decide ((b :: t).length ≤ 32) := by
      apply decide_eq_decide.2; simp
    rw [this]
    cases findL (b :: t) <;> simp
theorem nameL_nil : nameL [] = false := rfl
theorem decl_look {w : World} {m c g : Nat} (h : DeclM w m c g) (x : List UInt8) : ∃ v, ∀ q, (Instr.lookup 94 (.map (some m)) (.string (strB x)) true).run Tryd.prog (w.drewN q) = .ok (.tuple #[v, .bool (declB x)]) (w.drewN q) := by
  have hf := decl_find x c g
  have hd : declB x = decide (x = [98, 121, 116, 101, 115] ∨ x = [119, 111, 114, 100, 115] ∨ x = [108, 111, 99, 97, 108] ∨ x = [99, 111, 110, 115, 116]) := by
    unfold declB declL4
    simp [Bool.decide_or]
  rw [hd]
  by_cases h1 : x = [98, 121, 116, 101, 115]
  · rw [if_pos h1] at hf
    exact ⟨_, fun q => by rw [decide_eq_true (.inl h1)]; exact run_mapget_hit uM uS h.1 hf _ ⟨q, rfl⟩⟩
  rw [if_neg h1] at hf
  by_cases h2 : x = [119, 111, 114, 100, 115]
  · rw [if_pos h2] at hf
    exact ⟨_, fun q => by rw [decide_eq_true (.inr (.inl h2))]; exact run_mapget_hit uM uS h.1 hf _ ⟨q, rfl⟩⟩
  rw [if_neg h2] at hf
  by_cases h3 : x = [108, 111, 99, 97, 108]
  · rw [if_pos h3] at hf
    exact ⟨_, fun q => by rw [decide_eq_true (.inr (.inr (.inl h3)))]; exact run_mapget_hit uM uS h.1 hf _ ⟨q, rfl⟩⟩
  rw [if_neg h3] at hf
  by_cases h4 : x = [99, 111, 110, 115, 116]
  · rw [if_pos h4] at hf
    exact ⟨_, fun q => by rw [decide_eq_true (.inr (.inr (.inr h4)))]; exact run_mapget_hit uM uS h.1 hf _ ⟨q, rfl⟩⟩
  rw [if_neg h4] at hf
  exact ⟨_, fun q => by rw [decide_eq_false (by simp [h1, h2, h3, h4])]; exact run_mapget_miss uM uS zM h.1 hf _ ⟨q, rfl⟩⟩
theorem decl_look' {w : World} {m c g : Nat} (h : DeclM w m c g) (x : List UInt8) : ∃ v, (Instr.lookup 94 (.map (some m)) (.string (strB x)) true).run Tryd.prog w = .ok (.tuple #[v, .bool (declB x)]) w := by
  obtain ⟨v, hv⟩ := decl_look h x
  exact ⟨v, hv 0⟩
end Go.Proofs.YtlbhggjkcfcobaaDoor
