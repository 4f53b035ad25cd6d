/- Contract of the reference of layer 17: Print. (Printed by wip/mkref17.py.) -/
import Derived.Test.YtmijalhilalaoaaGreatDoorTj
namespace Go.Proofs.YtmijalhilalaoaaGreatDoor
open Go.RowKit Go.Proofs
set_option linter.unusedVariables false

theorem nlTo_arr (l : List Arr) (k : Nat) : nlAll (arrsTo l (k + 1)) = nlAll (arrsTo l k) ++ (arrL k (gA l k) ++ [10]) := by rw [arrsTo_succ, nlAll_append, nlAll_one]
theorem nlTo_loc (a : List (List UInt8)) (k : Nat) : nlAll (a ++ locsTo (k + 1)) = nlAll (a ++ locsTo k) ++ (locL k ++ [10]) := by rw [locsTo_succ, ← List.append_assoc, nlAll_append, nlAll_one]
theorem nlTo_row (a : List (List UInt8)) (c : List Ins) (k : Nat) : nlAll (a ++ rowsTo c (k + 1)) = nlAll (a ++ rowsTo c k) ++ (rowL c k ++ [10]) := by rw [rowsTo_succ, ← List.append_assoc, nlAll_append, nlAll_one]
theorem spL_succ (j : Nat) : spL (j + 1) = spL j ++ [32, 32] := by
  unfold spL
  rw [show 2 * (j + 1) = 2 * j + 2 by omega, ← List.replicate_append_replicate]; rfl

end Go.Proofs.YtmijalhilalaoaaGreatDoor
