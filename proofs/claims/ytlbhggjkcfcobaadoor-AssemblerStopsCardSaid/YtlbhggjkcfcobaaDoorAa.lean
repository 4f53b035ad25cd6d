/- The assembler, plainly: words, numbers, names, what a text declares and holds. No program in sight. -/
import Derived.Test.YtlbhggjkcfcobaaDoorTa
namespace Go.Proofs.YtlbhggjkcfcobaaDoor
open Go.RowKit Go.Proofs
set_option linter.unusedVariables false

def gapB (b : UInt8) : Bool := b == 32 || b == 9 || b == 10 || b == 59
/-- a word, its place. -/
abbrev Wd := List UInt8 × Nat
def wordsF : Nat → List UInt8 → Nat → List Wd
  | 0, _, _ => []
  | _ + 1, [], _ => []
  | f + 1, b :: t, i =>
    if b = 59 then wordsF f ((b :: t).dropWhile (· != 10)) (i + ((b :: t).takeWhile (· != 10)).length)
    else if gapB b then wordsF f t (i + 1)
    else ((b :: t).takeWhile (fun c => !gapB c), i) :: wordsF f ((b :: t).dropWhile (fun c => !gapB c)) (i + ((b :: t).takeWhile (fun c => !gapB c)).length)
/-- the words of a text. -/
def wordsL (src : List UInt8) : List Wd := wordsF (src.length + 1) src 0
def hexD (b : UInt8) : Nat := if 48 ≤ b ∧ b ≤ 57 then b.toNat - 48 else if 97 ≤ b ∧ b ≤ 102 then b.toNat - 87 else 99
def digF (base : Nat) : List UInt8 → Nat → Option Nat
  | [], n => some n
  | b :: t, n => if base ≤ hexD b then none else digF base t (base * n + hexD b)
/-- the value of a number, if a word is one. -/
def numL (s : List UInt8) : Option Nat :=
  if 2 < s.length ∧ s.take 2 = [48, 120] then
    if 8 < (s.drop 2).length then none else (digF 16 (s.drop 2) 0).bind fun n => if n < 4294967296 then some n else none
  else if 1 < s.length ∧ s.head? = some 48 then none
  else if s.length < 1 ∨ 10 < s.length then none
  else (digF 10 s 0).bind fun n => if n < 4294967296 then some n else none
def declL4 : List (List UInt8) := [[98, 121, 116, 101, 115], [119, 111, 114, 100, 115], [108, 111, 99, 97, 108], [99, 111, 110, 115, 116]]
/-- the number of an operation by its name. -/
def findL (s : List UInt8) : Option Nat := (List.range 36).find? fun k => decide ((opO k).name = s)
def nameChar (b : UInt8) : Bool := (97 ≤ b && b ≤ 122) || (48 ≤ b && b ≤ 57) || b == 95
def nameL (s : List UInt8) : Bool := decide (1 ≤ s.length ∧ s.length ≤ 32) && (match s.head? with | some b => 97 ≤ b && b ≤ 122 | none => false) && s.all nameChar && !(declL4.contains s) && (findL s).isNone

/-- what was read so far. -/
structure AS where
  arrs : List Arr
  an : List (List UInt8)
  ln : List (List UInt8)
  code : List Ins
  cn : List (List UInt8 × Nat)
def AS.start : AS := ⟨[], [], [], [], []⟩
def AS.cells (s : AS) : Int := (s.arrs.map (·.size)).sum
/-- the next word; an empty one behind the end. -/
def nextW (n : Nat) : List Wd → Wd
  | [] => ([], n)
  | w :: _ => w
inductive AR where
  | bad (at_ : Nat) (e : Int)
  | ok (s : AS) (r : List Wd)
def conOf (s : AS) (x : List UInt8) : Option Nat := (s.cn.find? fun p => decide (p.1 = x)).map (·.2)
/-- the error of the name of a declaration. -/
def freshE (s : AS) (x : List UInt8) : Int := if nameL x = false then 4 else if (conOf s x).isSome || s.an.contains x || s.ln.contains x then 8 else 0
/-- a value: its number, or its error. -/
def valueL (s : AS) (x : List UInt8) : Nat × Int :=
  match numL x with
  | some n => (n, 0)
  | none => if nameL x = false then (0, 4) else match conOf s x with | some n => (n, 0) | none => (0, 7)
def arrayL (n : Nat) (wide : Bool) (s : AS) (r : List Wd) : AR :=
  let w := nextW n r
  let v := nextW n r.tail
  if freshE s w.1 ≠ 0 then .bad w.2 (freshE s w.1)
  else if 8 ≤ s.an.length then .bad w.2 6
  else if (valueL s v.1).2 ≠ 0 then .bad v.2 (valueL s v.1).2
  else if ((valueL s v.1).1 : Int) < 1 ∨ 65536 < ((valueL s v.1).1 : Int) + s.cells then .bad v.2 2
  else .ok { s with arrs := s.arrs ++ [⟨wide, (valueL s v.1).1⟩], an := s.an ++ [w.1] } r.tail.tail
def localL (n : Nat) (s : AS) (r : List Wd) : AR :=
  let w := nextW n r
  if freshE s w.1 ≠ 0 then .bad w.2 (freshE s w.1)
  else if 16 ≤ s.ln.length then .bad w.2 6
  else .ok { s with ln := s.ln ++ [w.1] } r.tail
def constL (n : Nat) (s : AS) (r : List Wd) : AR :=
  let w := nextW n r
  let v := nextW n r.tail
  if freshE s w.1 ≠ 0 then .bad w.2 (freshE s w.1)
  else if (valueL s v.1).2 ≠ 0 then .bad v.2 (valueL s v.1).2
  else .ok { s with cn := s.cn ++ [(w.1, (valueL s v.1).1)] } r.tail.tail
def indexL (l : List (List UInt8)) (x : List UInt8) : Nat × Int :=
  if nameL x = false then (0, 4) else if l.contains x = false then (0, 7) else (l.idxOf x, 0)
/-- an instruction that begins with a word. -/
def instrL (n : Nat) (w : Wd) (s : AS) (r : List Wd) : AR :=
  match findL w.1 with
  | none => .bad w.2 4
  | some op =>
    if 1024 ≤ s.code.length then .bad w.2 6
    else
      let v := nextW n r
      if op = 0 then if (valueL s v.1).2 ≠ 0 then .bad v.2 (valueL s v.1).2 else .ok { s with code := s.code ++ [⟨op, (valueL s v.1).1⟩] } r.tail
      else if op = 35 then if (valueL s v.1).2 ≠ 0 then .bad v.2 (valueL s v.1).2 else if 16 ≤ (valueL s v.1).1 then .bad v.2 2 else .ok { s with code := s.code ++ [⟨op, (valueL s v.1).1⟩] } r.tail
      else if op = 1 ∨ op = 2 then if (indexL s.ln v.1).2 ≠ 0 then .bad v.2 (indexL s.ln v.1).2 else .ok { s with code := s.code ++ [⟨op, (indexL s.ln v.1).1⟩] } r.tail
      else if op = 3 ∨ op = 4 then if (indexL s.an v.1).2 ≠ 0 then .bad v.2 (indexL s.an v.1).2 else .ok { s with code := s.code ++ [⟨op, (indexL s.an v.1).1⟩] } r.tail
      else .ok { s with code := s.code ++ [⟨op, 0⟩] } r
def stepL (n : Nat) (w : Wd) (s : AS) (r : List Wd) : AR :=
  if w.1 = [98, 121, 116, 101, 115] then arrayL n false s r
  else if w.1 = [119, 111, 114, 100, 115] then arrayL n true s r
  else if w.1 = [108, 111, 99, 97, 108] then localL n s r
  else if w.1 = [99, 111, 110, 115, 116] then constL n s r
  else instrL n w s r
def readF (n : Nat) : Nat → AS → List Wd → AR
  | 0, s, r => .ok s r
  | _ + 1, s, [] => .ok s []
  | f + 1, s, w :: r => match stepL n w s r with
    | .bad a e => .bad a e
    | .ok s' r' => readF n f s' r'
/-- what a text is read to. -/
def readL (src : List UInt8) : AR := if 8192 < src.length then .bad 0 5 else readF src.length ((wordsL src).length + 1) AS.start (wordsL src)
end Go.Proofs.YtlbhggjkcfcobaaDoor
