/- Lines and texts of programs, plainly: what listing computes. No program in sight. -/
import Derived.Test.YtmijalhilalaoaaGreatDoorTa
namespace Go.Proofs.YtmijalhilalaoaaGreatDoor
open Go.RowKit Go.Proofs
set_option linter.unusedVariables false

def decI (z : Int) : List UInt8 := decS z.toNat
/-- what stands behind the name of an operation. -/
def operL (i : Ins) : List UInt8 :=
  if i.op = 0 ∨ i.op = 35 then 32 :: decI i.arg
  else if i.op = 1 ∨ i.op = 2 then 32 :: 108 :: decI i.arg
  else if i.op = 3 ∨ i.op = 4 then 32 :: 97 :: decI i.arg
  else []
/-- its local or its array exists. -/
def exL (L : Int) (n : Nat) (i : Ins) : Bool :=
  if i.op = 1 ∨ i.op = 2 then decide (i.arg < L) else if i.op = 3 ∨ i.op = 4 then decide (i.arg < (n : Int)) else true
def lineL (i : Ins) : List UInt8 := (opX i.op).name ++ operL i
def kindT (b : Bool) : List UInt8 := if b = true then [119, 111, 114, 100, 115] else [98, 121, 116, 101, 115]
def arrL (k : Nat) (x : Arr) : List UInt8 := kindT x.word ++ [32, 97] ++ decS k ++ [32] ++ decI x.size
def locL (k : Nat) : List UInt8 := [108, 111, 99, 97, 108, 32, 108] ++ decS k
/-- the count of blocks behind an operation; how many of them stand ahead of its line. -/
def dNext (d : Nat) (op : Int) : Nat := if op = 31 then d - 1 else if op = 27 ∨ op = 29 then d + 1 else d
def dSp (d : Nat) (op : Int) : Nat := if op = 28 ∨ op = 31 then d - 1 else d
def spL (k : Nat) : List UInt8 := List.replicate (2 * k) 32
def dAt (code : List Ins) : Nat → Nat
  | 0 => 0
  | k + 1 => dNext (dAt code k) (gI code k).op
def rowL (code : List Ins) (k : Nat) : List UInt8 := spL (dSp (dAt code k) (gI code k).op) ++ lineL (gI code k)
def arrsTo (l : List Arr) (k : Nat) : List (List UInt8) := (List.range k).map fun j => arrL j (gA l j)
def locsTo (k : Nat) : List (List UInt8) := (List.range k).map locL
def rowsTo (code : List Ins) (k : Nat) : List (List UInt8) := (List.range k).map (rowL code)
def declL (p : Prg) : List (List UInt8) := arrsTo p.arrs p.arrs.length ++ locsTo p.locs.toNat
def linesL (p : Prg) : List (List UInt8) := declL p ++ rowsTo p.code p.code.length
def nlAll (ls : List (List UInt8)) : List UInt8 := ls.flatMap (· ++ [10])
def textL (p : Prg) : List UInt8 := nlAll (linesL p)
/-- all of the first k instructions exist. -/
def exTo (p : Prg) (k : Nat) : Prop := ∀ j, j < k → exL p.locs p.arrs.length (gI p.code j) = true
def exAll (p : Prg) : Bool := p.code.all (exL p.locs p.arrs.length)
def printE (p : Prg) : Int := if formE p ≠ 0 then formE p else if exAll p = false then 7 else if 8192 < (textL p).length then 5 else 0
def printT (p : Prg) : List UInt8 := if printE p = 0 then textL p else []
def lineE (p : Prg) (at_ : Int) : Int := if formE p ≠ 0 then formE p else if at_ < 0 ∨ (p.code.length : Int) ≤ at_ then 2 else if exL p.locs p.arrs.length (gI p.code at_.toNat) = false then 7 else 0
def lineT (p : Prg) (at_ : Int) : List UInt8 := if lineE p at_ = 0 then lineL (gI p.code at_.toNat) else []

theorem arrsTo_succ (l : List Arr) (k : Nat) : arrsTo l (k + 1) = arrsTo l k ++ [arrL k (gA l k)] := by unfold arrsTo; rw [List.range_succ, List.map_append]; rfl
theorem locsTo_succ (k : Nat) : locsTo (k + 1) = locsTo k ++ [locL k] := by unfold locsTo; rw [List.range_succ, List.map_append]; rfl
theorem rowsTo_succ (c : List Ins) (k : Nat) : rowsTo c (k + 1) = rowsTo c k ++ [rowL c k] := by unfold rowsTo; rw [List.range_succ, List.map_append]; rfl
theorem nlAll_append (x y : List (List UInt8)) : nlAll (x ++ y) = nlAll x ++ nlAll y := by unfold nlAll; rw [List.flatMap_append]
theorem nlAll_one (x : List UInt8) : nlAll [x] = x ++ [10] := by simp [nlAll]
theorem exAll_false {p : Prg} {k : Nat} (hk : k < p.code.length) (h : exL p.locs p.arrs.length (gI p.code k) = false) : exAll p = false := by
  unfold exAll
  rw [List.all_eq_false]
  exact ⟨gI p.code k, gI_mem hk, by rw [h]; simp⟩
theorem exAll_true {p : Prg} (h : exTo p p.code.length) : exAll p = true := by
  unfold exAll
  rw [List.all_eq_true]
  intro x hx
  obtain ⟨k, hk, rfl⟩ := List.getElem_of_mem hx
  rw [← gI_get hk]
  exact h k hk
theorem exAll_at {p : Prg} (h : exAll p = true) {k : Nat} (hk : k < p.code.length) : exL p.locs p.arrs.length (gI p.code k) = true := by
  unfold exAll at h
  rw [List.all_eq_true] at h
  exact h _ (gI_mem hk)
theorem exTo.step {p : Prg} {k : Nat} (h : exTo p k) (hk : exL p.locs p.arrs.length (gI p.code k) = true) : exTo p (k + 1) := fun j hj => by
  rcases Nat.lt_or_ge j k with h1 | h1
  · exact h j h1
  · obtain rfl : j = k := by omega
    exact hk

/-- strings.Join over the lines and an empty one. -/
theorem join_lines : ∀ ls : List (List UInt8), Lib.join (ls ++ [[]]) [10] = nlAll ls
  | [] => by simp [Lib.join, List.intercalate, nlAll]
  | [x] => by rw [List.singleton_append, Lib.join_cons, nlAll_one]; simp [Lib.joinTail]
  | x :: y :: l => by
    have h := join_lines (y :: l)
    rw [List.cons_append, Lib.join_cons] at h ⊢
    rw [List.cons_append, show (Lib.joinTail [10] (y :: (l ++ [[]]))) = [10] ++ (y ++ Lib.joinTail [10] (l ++ [[]])) by simp [Lib.joinTail], h]
    simp [nlAll]

end Go.Proofs.YtmijalhilalaoaaGreatDoor
