/- Words of the reference. -/
import Derived.Test.YtdebhdopginllaaDoorDd
namespace Go.Proofs.YtdebhdopginllaaDoor
open Go.RowKit Go.Proofs
set_option linter.unusedVariables false

def encS (s : List UInt8) : Value := .string (strB s)
theorem encS_one (s : List UInt8) : (encS s).oneCell' = true := rfl
theorem uSS : Tryd.prog.underlying 24 = some (.slice 9) := by kernel_rfl
theorem infoS : (Tryd.prog.info? 9).map (fun i => (i.zero, i.size, i.bytes)) = some (some (encS []), 1, 16) := by kernel_rfl
theorem Own.strs {w : World} {B : Nat} {e : TypeId} {A : Option Addr} {n c : Nat} {ss : List (List UInt8)} (h : Own encS w B e A n c ss) : Strs w A n c ss := ⟨h.length, h.cap, h.cells []⟩
theorem wordsTo_le (bs : List UInt8) : ∀ k, (wordsTo bs k).length ≤ k
  | 0 => Nat.le_refl _
  | k + 1 => by rw [wordsTo, List.length_append]; have := wordsTo_le bs k; split <;> simp <;> omega
theorem pieces_count (bs : List UInt8) : ∀ k, k ≤ (piecesL bs).length → k ≤ stP bs k
  | 0, _ => Nat.zero_le _
  | k + 1, h => by rw [stP]; have := pieces_count bs k (by omega); have := plen_pos (bs.drop (stP bs k)); omega

end Go.Proofs.YtdebhdopginllaaDoor
