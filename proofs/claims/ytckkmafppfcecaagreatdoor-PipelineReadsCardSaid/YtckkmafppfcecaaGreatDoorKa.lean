/- Words for the bytecode chapters: type facts, bytes of the call's own, programs in memory; the table of operations. -/
import Derived.Test.YtckkmafppfcecaaGreatDoorProg
import Derived.Test.YtckkmafppfcecaaGreatDoorKit
import Derived.Test.YtckkmafppfcecaaGreatDoorQt
import Derived.WalkLawsBesides
import Derived.Laws.Tables
import Derived.Laws.Rows
import Derived.Deep.WholeRow
namespace Go.Proofs.YtckkmafppfcecaaGreatDoor
open Go.RowKit Go.Proofs
set_option linter.unusedVariables false

theorem tB : Tryz.prog.underlying 23 = some (.slice (Tryz.prog.elem 23)) := by kernel_rfl
theorem eB : Tryz.prog.elem 23 = 5 := by kernel_rfl
theorem sB : ∀ W : World, (sizeOf 5).run Tryz.prog W = .ok 1 W := fun _ => by kernel_rfl
theorem uB : Tryz.prog.underlying 23 = some (.slice 5) := by kernel_rfl
theorem u8 : Tryz.prog.underlying 5 = some (.int .u8) := by kernel_rfl
theorem uS : Tryz.prog.underlying 9 = some .string := by kernel_rfl
def encB (b : UInt8) : Value := .int .u8 (b.toNat : Int)
theorem encB_one (s : UInt8) : (encB s).oneCell' = true := rfl
theorem infoB : (Tryz.prog.info? 5).map (fun i => (i.zero, i.size, i.bytes)) = some (some (encB 0), 1, 1) := by kernel_rfl
theorem Own.bytesB {w : World} {B : Nat} {e : TypeId} {A : Option Addr} {n c : Nat} {bs : List UInt8} (h : Own encB w B e A n c bs) : Bytes w A n c bs := ⟨h.length, h.cap, h.cells 0⟩
theorem Bytes.nil (w : World) (c : Nat) : Bytes w none 0 c [] := ⟨rfl, Nat.zero_le _, fun h => absurd h (by omega)⟩

section
variable {α : Type} {enc : α → Value} {P : Program} {w : World} {B : Nat} {e t : TypeId} {A : Option Addr} {n c : Nat} {xs : List α} {zero : α} {bytes : Nat}
  {ops : Array Oper} {rest : List Oper} {o : Oper} {a : Act} {K : Act → World → Prop} {Q : Exit → Act → World → Prop} {E : Prop}
/-- append(x, y) of one element, whose value is v. -/
theorem wpList_pushv (hgd : o.guard = none) (s x : Operand) (ho : o.op = .call { callee := .builtin .append, args := #[s, x], argTypes := #[t, t] })
    (ht : P.underlying t = some (.slice e)) (hi : (P.info? e).map (fun i => (i.zero, i.size, i.bytes)) = some (some (enc zero), 1, bytes)) (h1 : ∀ x, (enc x).oneCell' = true) (hz : (enc zero).cells.size = 1)
    (hs : a.eval s = .slice A n c) (hown : Own enc w B e A n c xs) (hB : B ≤ w.heap.size) (y : α) (v : Value) (hv : enc y = v)
    (hx : a.eval x = .slice (some ⟨w.heap.size, 0, none⟩) 1 1) (hl : n + 1 ≤ maxLen) (hby : (n + 1) * bytes ≤ 140737488355328)
    (h : ∀ A2 c2 w', Own enc w' B e A2 (n + 1) c2 (xs ++ [y]) → Below B w w' → wpList P ops Q rest (a.put o.dst (.slice A2 (n + 1) c2)) w') : wpList P ops Q (o :: rest) a (w.alloc (.cells #[v] e)) := by
  subst hv
  exact wpList_push hgd s x ho ht hi h1 hz hs hown hB y hx hl hby h
end

theorem balloc {w w1 : World} (h : Below w.heap.size w w1) (o : Obj) : Below w.heap.size w (w1.alloc o) := h.alloc h.size o
/-- an instruction: operation, argument; an array: words, size; a program. -/
structure Ins where
  op : Int
  arg : Int
deriving DecidableEq
structure Arr where
  word : Bool
  size : Int
deriving DecidableEq
/-- n pairs of cells from A on. -/
def Cells2 (w : World) (A : Option Addr) (n : Nat) (f g : Nat → Value) : Prop :=
  0 < n → ∃ b off, A = some ⟨b, off, none⟩ ∧ b < w.heap.size ∧ ∀ i, i < n → w.cell? ⟨b, off + i * 2, none⟩ = some (f i) ∧ w.cell? ⟨b, off + i * 2 + 1, none⟩ = some (g i)
def gI (l : List Ins) (k : Nat) : Ins := l.getD k ⟨0, 0⟩
def gA (l : List Arr) (k : Nat) : Arr := l.getD k ⟨false, 0⟩
def Codes (w : World) (A : Option Addr) (n c : Nat) (l : List Ins) : Prop := l.length = n ∧ n ≤ c ∧ (∀ x ∈ l, 0 ≤ x.arg ∧ x.arg < 4294967296 ∧ (Lit.int .i64 x.op).wf = true) ∧ Cells2 w A n (fun i => .int .i64 (gI l i).op) (fun i => .int .u32 (gI l i).arg)
def Arrs (w : World) (A : Option Addr) (n c : Nat) (l : List Arr) : Prop := l.length = n ∧ n ≤ c ∧ (∀ x ∈ l, (Lit.int .i64 x.size).wf = true) ∧ Cells2 w A n (fun i => .bool (gA l i).word) (fun i => .int .i64 (gA l i).size)
section
variable {w w' : World} {A : Option Addr} {n c : Nat} {f g : Nat → Value}
theorem Cells2.below (h : Cells2 w A n f g) (hb : Below w.heap.size w w') : Cells2 w' A n f g := fun hn => by
  obtain ⟨b, off, rfl, hlt, hc⟩ := h hn
  exact ⟨b, off, rfl, Nat.lt_of_lt_of_le hlt hb.size, fun i hi => ⟨(hb.cell (p := ⟨b, off + i * 2, none⟩) hlt).trans (hc i hi).1, (hb.cell (p := ⟨b, off + i * 2 + 1, none⟩) hlt).trans (hc i hi).2⟩⟩
theorem Codes.below {l : List Ins} (h : Codes w A n c l) (hb : Below w.heap.size w w') : Codes w' A n c l := ⟨h.1, h.2.1, h.2.2.1, h.2.2.2.below hb⟩
theorem Arrs.below {l : List Arr} (h : Arrs w A n c l) (hb : Below w.heap.size w w') : Arrs w' A n c l := ⟨h.1, h.2.1, h.2.2.1, h.2.2.2.below hb⟩
theorem Codes.drewN {l : List Ins} (h : Codes w A n c l) (q : Nat) : Codes (w.drewN q) A n c l := h
theorem Arrs.drewN {l : List Arr} (h : Arrs w A n c l) (q : Nat) : Arrs (w.drewN q) A n c l := h
theorem Codes.get {l : List Ins} (h : Codes w A n c l) {k : Nat} (hk : k < n) : ∃ b off, A = some ⟨b, off, none⟩ ∧ b < w.heap.size ∧ ∀ i, i < n → w.cell? ⟨b, off + i * 2, none⟩ = some (.int .i64 (gI l i).op) ∧ w.cell? ⟨b, off + i * 2 + 1, none⟩ = some (.int .u32 (gI l i).arg) := h.2.2.2 (by omega)
theorem Arrs.get {l : List Arr} (h : Arrs w A n c l) {k : Nat} (hk : k < n) : ∃ b off, A = some ⟨b, off, none⟩ ∧ b < w.heap.size ∧ ∀ i, i < n → w.cell? ⟨b, off + i * 2, none⟩ = some (.bool (gA l i).word) ∧ w.cell? ⟨b, off + i * 2 + 1, none⟩ = some (.int .i64 (gA l i).size) := h.2.2.2 (by omega)
theorem gI_mem {l : List Ins} {k : Nat} (hk : k < l.length) : gI l k ∈ l := by unfold gI; rw [List.getD_eq_getElem?_getD, List.getElem?_eq_getElem hk]; exact List.getElem_mem hk
theorem gA_mem {l : List Arr} {k : Nat} (hk : k < l.length) : gA l k ∈ l := by unfold gA; rw [List.getD_eq_getElem?_getD, List.getElem?_eq_getElem hk]; exact List.getElem_mem hk
theorem Codes.arg {l : List Ins} (h : Codes w A n c l) {k : Nat} (hk : k < n) : 0 ≤ (gI l k).arg ∧ (gI l k).arg < 4294967296 ∧ (Lit.int .i64 (gI l k).op).wf = true := h.2.2.1 _ (gI_mem (by rw [h.1]; exact hk))
theorem Arrs.size {l : List Arr} (h : Arrs w A n c l) {k : Nat} (hk : k < n) : (Lit.int .i64 (gA l k).size).wf = true := h.2.2.1 _ (gA_mem (by rw [h.1]; exact hk))
end
theorem bounds_i64 {a : Int} (h : (Lit.int .i64 a).wf = true) : -9223372036854775808 ≤ a ∧ a ≤ 9223372036854775807 := by
  simp [Lit.wf, IntKind.min, IntKind.max, IntKind.bits, IntKind.signed] at h
  omega

/-- an operation's cells. -/
structure Opn where
  name : List UInt8
  pops : List UInt8
  pushes : List UInt8
  limit : Nat
  arg : Bool
def opnV (x : Opn) : List Value := [.string (strB x.name), .string (strB x.pops), .string (strB x.pushes), .int .u64 (x.limit : Int), .bool x.arg]
end Go.Proofs.YtckkmafppfcecaaGreatDoor
