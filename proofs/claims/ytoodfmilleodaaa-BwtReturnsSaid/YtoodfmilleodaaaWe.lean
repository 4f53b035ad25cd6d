/- Contracts of the reference: Common, Find. -/
import Derived.Test.YtoodfmilleodaaaWd
import Derived.Deep.RegionLaw

namespace Go.Proofs.Ytoodfmilleodaaa
open Go.RowKit Go.Proofs
set_option linter.unusedVariables false

theorem one_i64 (x : Int) : (Value.int .i64 x).oneCell' = true := rfl

def commonOut (bs : List UInt8) (zs : List Int) : List Int := if checkErr bs zs = 0 then commonL bs zs else []

/-- The reference's Find: the two rows and the error. -/
def findErr (bs : List UInt8) (zs : List Int) (pat : List UInt8) : Int := if checkErr bs zs ≠ 0 then checkErr bs zs else if 65536 < pat.length then 5 else 0
def findLow (bs : List UInt8) (zs : List Int) (pat : List UInt8) : Int := if findErr bs zs pat = 0 then lowOf bs zs pat else 0
def findHigh (bs : List UInt8) (zs : List Int) (pat : List UInt8) : Int := if findErr bs zs pat = 0 then highOf bs zs pat else 0
theorem ret_int3 {a b c a' b' c' : Int} (h1 : a = a') (h2 : b = b') (h3 : c = c') : Ending.returned (.tuple #[.int .i64 a, .int .i64 b, .int .i64 c]) = .returned (.tuple #[.int .i64 a', .int .i64 b', .int .i64 c']) := by rw [h1, h2, h3]

end Go.Proofs.Ytoodfmilleodaaa
