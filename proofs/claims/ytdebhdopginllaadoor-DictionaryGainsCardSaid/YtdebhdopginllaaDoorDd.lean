/- IsWord, Few and Words of the reference. -/
import Derived.Test.YtdebhdopginllaaDoorDc
namespace Go.Proofs.YtdebhdopginllaaDoor
open Go.RowKit Go.Proofs
set_option linter.unusedVariables false

/-- a conversion []byte(s), s no constant. -/
theorem conv_bytes {P : Program} (src dst e : TypeId) (hs : P.underlying src = some .string) (hd : P.underlying dst = some (.slice e)) (he : P.underlying e = some (.int .u8)) (w : World) (s : List UInt8) :
    ∃ c w1, (convert src dst (.string (strB s))).run P w = .ok (.slice (some ⟨w.heap.size, 0, none⟩) s.length c) w1 ∧ Bytes w1 (some ⟨w.heap.size, 0, none⟩) s.length c s ∧ Below w.heap.size w w1 := by
  refine ⟨_, _, by rw [Lib.run_convert_string_bytes w src dst e (strB s) hs hd he, strB_size], ?_, ?_⟩
  · refine ⟨rfl, grownCap_ge _ _ _ _, fun hn => ⟨w.heap.size, 0, rfl, by rw [Lib.bytesWorld_size]; omega, fun i hi => ?_⟩⟩
    rw [Nat.zero_add, Lib.bytesWorld_cell _ _ _ _ (by rw [strB_size]; exact hi)]
    rfl
  · exact ⟨rfl, rfl, rfl, by rw [Lib.bytesWorld_size]; omega, fun k hk => Lib.bytesWorld_at_old _ _ _ k hk⟩

def isWordB (s : List UInt8) : Bool := decide (2 ≤ s.length) && (decide (s.length ≤ 32) && decide (runL s = s.length))

/-- the words among the pieces: for each start, whether it is a word. -/
def wordsTo (bs : List UInt8) : Nat → List (List UInt8)
  | 0 => []
  | k + 1 => wordsTo bs k ++ if wdP bs k then [pcP bs k] else []
def wordsL (bs : List UInt8) : List (List UInt8) := wordsTo bs (piecesL bs).length
end Go.Proofs.YtdebhdopginllaaDoor
