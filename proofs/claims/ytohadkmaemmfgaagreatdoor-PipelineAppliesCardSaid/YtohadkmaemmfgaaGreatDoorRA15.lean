/- Ba Bb Bc. -/
import Derived.Test.YtohadkmaemmfgaaGreatDoorProg
import Derived.Test.YtohadkmaemmfgaaGreatDoorRA14
import Derived.Test.YtohadkmaemmfgaaGreatDoorRA09
import Derived.Deep.WholeRow
set_option maxRecDepth 100000
set_option maxHeartbeats 4000000
namespace Go.Proofs.YtohadkmaemmfgaaGreatDoor.Bwt
open Go.RowKit Go.Proofs
set_option linter.unusedVariables false
def byteR (bs : List UInt8) (p r : Nat) : Int := if r < p then gb bs r else gb bs (r - 1)
theorem _root_.Go.Proofs.YtohadkmaemmfgaaGreatDoor.Bytes.alloc {w : World} {A : Option Addr} {n c : Nat} {bs : List UInt8} (h : Bytes w A n c bs) (o : Obj) : Bytes (w.alloc o) A n c bs := h.below ((Below.refl _ _).alloc (Nat.le_refl _) _)
def cntTo (bs : List UInt8) (k d : Nat) : Int := (((bs.take k).map UInt8.toNat).count d : Nat)
def stB (bs : List UInt8) : Nat → Int
  | 0 => 1
  | d + 1 => stB bs d + cntTo bs bs.length d
def stAll (bs : List UInt8) : List Int := (List.range 256).map (stB bs)
def bn (bs : List UInt8) (k : Nat) : Nat := (bs.getD k 0).toNat

end Go.Proofs.YtohadkmaemmfgaaGreatDoor.Bwt
