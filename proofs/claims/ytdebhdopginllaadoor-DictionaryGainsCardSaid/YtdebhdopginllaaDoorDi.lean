/- Uncode of the program. -/
import Derived.Test.YtdebhdopginllaaDoorDh
import Derived.Deep.RegionLaw
namespace Go.Proofs.YtdebhdopginllaaDoor
open Go.RowKit Go.Proofs
set_option linter.unusedVariables false

def vLen (v : Value) : Nat := match v with
  | .slice _ n _ => n
  | _ => 0
theorem cons_of {w : World} {A : Option Addr} {n c : Nat} {r : List UInt8} (h : Bytes w A n c r) (h0 : 0 < n) : ∃ y r', r = y :: r' ∧ r'.length = n - 1 := by
  have hl := h.1
  cases r with
  | nil => simp at hl; omega
  | cons y r' => exact ⟨y, r', rfl, by simp at hl; omega⟩

theorem Own.drewN {α : Type} {enc : α → Value} {w : World} {B : Nat} {e : TypeId} {A : Option Addr} {n c : Nat} {xs : List α} (h : Own enc w B e A n c xs) (q : Nat) : Own enc (w.drewN q) B e A n c xs := h
theorem Own.drew {α : Type} {enc : α → Value} {w : World} {B : Nat} {e : TypeId} {A : Option Addr} {n c : Nat} {xs : List α} (h : Own enc w B e A n c xs) : Own enc w.drew B e A n c xs := h
section
variable {α : Type} {enc : α → Value} {P : Program} {w : World} {B : Nat} {e t : TypeId} {A : Option Addr} {n c : Nat} {xs : List α} {zero : α} {bytes : Nat}
  {ops : Array Oper} {rest : List Oper} {o : Oper} {a : Act} {K : Act → World → Prop} {Q : Exit → Act → World → Prop} {E : Prop}
theorem step_pushv (hgd : o.guard = none) (s x : Operand) (ho : o.op = .call { callee := .builtin .append, args := #[s, x], argTypes := #[t, t] })
    (ht : P.underlying t = some (.slice e)) (hi : (P.info? e).map (fun i => (i.zero, i.size, i.bytes)) = some (some (enc zero), 1, bytes)) (h1 : ∀ x, (enc x).oneCell' = true) (hz : (enc zero).cells.size = 1)
    (hs : a.eval s = .slice A n c) (hown : Own enc w B e A n c xs) (hB : B ≤ w.heap.size) (y : α) (v : Value) (hv : enc y = v)
    (hx : a.eval x = .slice (some ⟨w.heap.size, 0, none⟩) 1 1) (hl : n + 1 ≤ maxLen) (hby : (n + 1) * bytes ≤ 140737488355328)
    (h : ∀ A2 c2 w', Own enc w' B e A2 (n + 1) c2 (xs ++ [y]) → Below B w w' → K (a.put o.dst (.slice A2 (n + 1) c2)) w') :
    if Region.wanted o (yielded ops a.tmps) = true then Oper.wp P o a (w.alloc (.cells #[v] e)) K Q else E := by
  subst hv
  exact step_push hgd s x ho ht hi h1 hz hs hown hB y hx hl hby h
end

end Go.Proofs.YtdebhdopginllaaDoor
