/- Wg Wh Ws. -/
import Derived.Test.YtohadkmaemmfgaaGreatDoorRI13
import Derived.Test.YtohadkmaemmfgaaGreatDoorRI01
import Derived.Test.YtohadkmaemmfgaaGreatDoorRI60
import Derived.Test.YtohadkmaemmfgaaGreatDoorRI55
import Derived.Test.YtohadkmaemmfgaaGreatDoorRI06
import Derived.Deep.DeepCutAuto
import Derived.Laws.EntriesVeiled
import Derived.ChangeAlike
set_option maxRecDepth 100000
set_option maxHeartbeats 4000000
namespace Go.Proofs.YtohadkmaemmfgaaGreatDoor.Bwt
open Go.RowKit Go.Proofs
set_option linter.unusedVariables false

end Go.Proofs.YtohadkmaemmfgaaGreatDoor.Bwt
namespace Go.Proofs.YtohadkmaemmfgaaGreatDoor.Bwt
open Go.RowKit Go.Proofs Go.Sort Go.Shelf
set_option linter.unusedVariables false
section
variable {α : Type} [Inhabited α] {enc : α → Value}
end
end Go.Proofs.YtohadkmaemmfgaaGreatDoor.Bwt
namespace Go.Proofs.YtohadkmaemmfgaaGreatDoor.Bwt
open Go.RowKit Go.Proofs
set_option linter.unusedVariables false
def SortA (w wx : World) (n : Nat) (s5 s6 : Value) : Prop := ∃ gp gk gr, s5 = .slice (some ⟨gp, 0, none⟩) (n + 1) (n + 1) ∧ s6 = .pointer (some ⟨gr, 0, none⟩) ∧
  Row (Value.int .i64) wx gp 3 (List.replicate (n + 1) 0) ∧ Row (Value.int .i64) wx gk 3 (List.replicate (n + 1) 0) ∧ Row id wx gr 52 [.slice (some ⟨gk, 0, none⟩) (n + 1) (n + 1)] ∧
  Row id wx w.heap.size 3 [.int .i64 (n : Int)] ∧ w.heap.size < gp ∧ w.heap.size < gk ∧ w.heap.size < gr ∧ gp ≠ gk ∧ Below w.heap.size w wx
theorem SortA.mk {w wx : World} {n gp gk gr : Nat} (h1 : wx.heap[gp]? = some (rowObj (Value.int .i64) 3 (List.replicate (n + 1) 0))) (h2 : wx.heap[gk]? = some (rowObj (Value.int .i64) 3 (List.replicate (n + 1) 0)))
    (h3 : wx.heap[gr]? = some (.cells #[.slice (some ⟨gk, 0, none⟩) (n + 1) (n + 1)] 52)) (h0 : wx.heap[w.heap.size]? = some (.cells #[.int .i64 (n : Int)] 3)) (l1 : w.heap.size < gp) (l2 : w.heap.size < gk) (l3 : w.heap.size < gr) (l4 : gp ≠ gk) (hb : Below w.heap.size w wx) :
    SortA w wx n (.slice (some ⟨gp, 0, none⟩) (n + 1) (n + 1)) (.pointer (some ⟨gr, 0, none⟩)) := ⟨gp, gk, gr, rfl, rfl, h1, h2, h3, h0, l1, l2, l3, l4, hb⟩
structure SortSt (w wr : World) (bs : List UInt8) (n gp gr gl gk : Nat) (ps : List Nat) (rk : List Int) (len : Nat) : Prop where
  rp : Row encN wr gp 3 ps
  rr : Row id wr gr 52 [.slice (some ⟨gk, 0, none⟩) (n + 1) (n + 1)]
  rn : Row id wr w.heap.size 3 [.int .i64 (n : Int)]
  rl : Row id wr gl 3 [.int .i64 (len : Int)]
  rrk : Row (Value.int .i64) wr gk 3 rk
  lp : w.heap.size < gp
  lr : w.heap.size < gr
  ll : w.heap.size < gl
  lk : w.heap.size < gk
  npl : gp ≠ gl
  npk : gp ≠ gk
  bel : Below w.heap.size w wr
  stage : Stage bs len rk
  size : ps.length = bs.length + 1
  nodup : ps.Nodup
  range : ∀ p ∈ ps, p < ps.length
  len1 : 1 ≤ len
  lenb : len ≤ 65536
end Go.Proofs.YtohadkmaemmfgaaGreatDoor.Bwt
