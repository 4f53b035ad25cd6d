/- Code of the reference; append of a string's bytes. -/
import Derived.Test.YtdebhdopginllaaDoorDe
import Derived.Test.YtdebhdopginllaaDoorDf
import Derived.Lib.AppendStr
namespace Go.Proofs.YtdebhdopginllaaDoor
open Go.RowKit Go.Proofs
set_option linter.unusedVariables false

def encB (b : UInt8) : Value := .int .u8 (b.toNat : Int)
theorem encB_one (s : UInt8) : (encB s).oneCell' = true := rfl
theorem infoB : (Tryd.prog.info? 5).map (fun i => (i.zero, i.size, i.bytes)) = some (some (encB 0), 1, 1) := by kernel_rfl
theorem Own.bytesB {w : World} {B : Nat} {e : TypeId} {A : Option Addr} {n c : Nat} {bs : List UInt8} (h : Own encB w B e A n c bs) : Bytes w A n c bs := ⟨h.length, h.cap, h.cells 0⟩

section
variable {α : Type} {enc : α → Value} {P : Program} {w : World} {B : Nat} {e t : TypeId} {A : Option Addr} {n c : Nat} {xs : List α} {zero : α} {bytes : Nat}
  {ops : Array Oper} {rest : List Oper} {o : Oper} {a : Act} {K : Act → World → Prop} {Q : Exit → Act → World → Prop} {E : Prop}
/-- append(x, y) of one element, whose value is v. -/
theorem wpList_pushv (hgd : o.guard = none) (s x : Operand) (ho : o.op = .call { callee := .builtin .append, args := #[s, x], argTypes := #[t, t] })
    (ht : P.underlying t = some (.slice e)) (hi : (P.info? e).map (fun i => (i.zero, i.size, i.bytes)) = some (some (enc zero), 1, bytes)) (h1 : ∀ x, (enc x).oneCell' = true) (hz : (enc zero).cells.size = 1)
    (hs : a.eval s = .slice A n c) (hown : Own enc w B e A n c xs) (hB : B ≤ w.heap.size) (y : α) (v : Value) (hv : enc y = v)
    (hx : a.eval x = .slice (some ⟨w.heap.size, 0, none⟩) 1 1) (hl : n + 1 ≤ maxLen) (hby : (n + 1) * bytes ≤ 140737488355328)
    (h : ∀ A2 c2 w', Own enc w' B e A2 (n + 1) c2 (xs ++ [y]) → Below B w w' → wpList P ops Q rest (a.put o.dst (.slice A2 (n + 1) c2)) w') : wpList P ops Q (o :: rest) a (w.alloc (.cells #[v] e)) := by
  subst hv
  exact wpList_push hgd s x ho ht hi h1 hz hs hown hB y hx hl hby h
theorem wpList_apps {bs : List UInt8} {u : TypeId} (hgd : o.guard = none) (s x : Operand) (ho : o.op = .call { callee := .builtin .append, args := #[s, x], argTypes := #[t, u] })
    (ht : P.underlying t = some (.slice e)) (hu : P.underlying u = some .string) (hi : (P.info? e).map (fun i => (i.zero, i.size, i.bytes)) = some (some (encB 0), 1, 1))
    (hs : a.eval s = .slice A n c) (hown : Own encB w B e A n c bs) (hB : B ≤ w.heap.size) (ys : List UInt8)
    (hx : a.eval x = .string (strB ys)) (hl : n + ys.length ≤ maxLen) (hby : n + ys.length ≤ 140737488355328)
    (h : ∀ A2 c2 w', Own encB w' B e A2 (n + ys.length) c2 (bs ++ ys) → Below B w w' → wpList P ops Q rest (a.put o.dst (.slice A2 (n + ys.length) c2)) w') : wpList P ops Q (o :: rest) a w := by
  obtain ⟨i, hi0, hz0, hs1, hb1⟩ := info_parts hi
  have hsz := strB_size ys
  refine Lib.wpList_append_own_string (w := w) hgd s x t u ho B e i ht hu hi0 hz0 hs1 hb1 _ n _ hs hown (strB ys) hx (by rw [hsz]; exact hl) (by rw [hsz]; exact hby) hB ?_
  intro v' w' h2 h3 h4
  rw [hsz] at h2
  have hform : ∃ A2 c2, v' = .slice A2 (n + ys.length) c2 := by
    rcases h2.2 with ⟨rfl, h0⟩ | ⟨g, cap, cur, rfl, _⟩
    · exact ⟨none, 0, by rw [h0]⟩
    · exact ⟨_, _, rfl⟩
  obtain ⟨A2, c2, rfl⟩ := hform
  refine h A2 c2 w' ?_ ((Below.refl B w).grown h3 hB (fun k hk => (World.ownsRow.lt hown k hk).1))
  unfold Own
  rw [List.map_append]
  exact h2
end

/-- a result: bytes and a number. -/
def RetBytes (w : World) (bs : List UInt8) (x : Int) (e : Ending) (w' : World) : Prop := ∃ A n c, e = .returned (.tuple #[.slice A n c, .int .i64 x]) ∧ Bytes w' A n c bs ∧ Below w.heap.size w w'
theorem Bytes.nil (w : World) (c : Nat) : Bytes w none 0 c [] := ⟨rfl, Nat.zero_le _, fun h => absurd h (by omega)⟩
theorem RetBytes.mk {w w' : World} {bs : List UInt8} {x x' : Int} {A : Option Addr} {n c : Nat} (hx : x = x') (h : Bytes w' A n c bs) (hb : Below w.heap.size w w') : RetBytes w bs x' (.returned (.tuple #[.slice A n c, .int .i64 x])) w' := by
  subst hx
  exact ⟨A, n, c, rfl, h, hb⟩
theorem RetBytes.err {w w' : World} {x x' : Int} (hx : x = x') (hb : Below w.heap.size w w') : RetBytes w [] x' (.returned (.tuple #[.slice none 0 0, .int .i64 x])) w' := RetBytes.mk hx (Bytes.nil _ _) hb

def codeR (ss : List (List UInt8)) (bs : List UInt8) : List UInt8 × Nat := if checkL ss = 0 then (codeL ss bs, 0) else ([], checkL ss)
theorem checkL_le (ss : List (List UInt8)) : checkL ss ≤ 24 := by
  have h : ∀ k, checkTo ss k ≤ 24 := fun k => by
    induction k with
    | zero => simp [checkTo]
    | succ k ih =>
      rw [checkTo]
      split
      · unfold badAt
        split
        · omega
        · split <;> omega
      · exact ih
  unfold checkL
  split
  · omega
  · exact h _
theorem encB_gb (bs : List UInt8) (k : Nat) : encB (bs.getD k 0) = .int .u8 (gb bs k) := rfl

end Go.Proofs.YtdebhdopginllaaDoor
