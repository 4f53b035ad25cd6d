/- The iterator 'all' of layer 33 gives the rows that have a byte, in their order. -/
import Derived.Test.YtoodfmilleodaaaBc
import Derived.Sort.QuietIn
import Derived.Sort.CutIn
namespace Go.Proofs.Ytoodfmilleodaaa
open Go.RowKit Go.Proofs
set_option linter.unusedVariables false
attribute [local go_sem] Oper.semAt_some

/-- the row of byte k. -/
def rowN (p k : Nat) : Nat := if k < p then k else k + 1
def allRow (p : Nat) (bs : List UInt8) (k : Nat) : Array Value := #[.int .i64 (rowN p k : Int), .int .u8 (gb bs k)]
def boxKp (n0 bx : Nat) (X Y : World) : Prop := Y.heap[bx]? = X.heap[bx]? ∧ Below n0 X Y
def BoxR (W : World) (bx : Nat) (A : Option Addr) (n c p : Nat) : Prop := Row id W bx 66 [.slice A n c, .int .i64 (p : Int)]

theorem all_any (A : Option Addr) (n c p : Nat) (w : World) :
    Calls Try.prog 67 #[rowsV A n c p] w fun e w' => e = .returned (.func (.func 85) #[] #[.pointer (some ⟨w.heap.size, 0, none⟩)]) ∧ w' = w.alloc (.cells #[.slice A n c, .int .i64 (p : Int)] 66) := by
  unfold rowsV
  go_enter Try.func67, Try.ntmps67
  go_wp2_with fail
  go_ret
  exact ⟨rfl, rfl⟩

set_option maxHeartbeats 2000000 in
theorem all1_gives (w0 : World) (A : Option Addr) (n c p : Nat) (bs : List UInt8) (hx : Bytes w0 A n c bs) (hn : n ≤ 65536) (hp : p ≤ n) (bx : Nat) (hbx : w0.heap.size ≤ bx) :
    Gives Try.prog 85 #[.pointer (some ⟨bx, 0, none⟩)] (allRow p bs) n (fun X Y => Y = X) (boxKp w0.heap.size bx) (fun W => BoxR W bx A n c p ∧ Below w0.heap.size w0 W) := by
  intro l J Jx W ⟨hbox, hbel⟩ hJ hJx hY h0
  have HY := Lib.hid hY; clear hY
  have b0 : W.cell? ⟨bx, 0, none⟩ = some (.slice A n c) := hbox.cell (j := 0) undef (by simp)
  have b1 : W.cell? ⟨bx, 1, none⟩ = some (.int .i64 (p : Int)) := hbox.cell (j := 1) undef (by simp)
  refine callsIn_of_wp Try.func85 rfl trivial ?_ rfl
  simp only [Try.ntmps85, List.size_toArray, List.length_cons, List.length_nil, Nat.reduceAdd, Nat.reduceSub, Array.replicate_succ, Array.replicate_zero, List.push_toArray, List.append_toArray, List.nil_append, List.cons_append]
  gi_wp2
  gi_loopw [9] (fun i wr => ∃ k : Nat, k ≤ n ∧ i = .int .i64 (k : Int) ∧ J k wr ∧ BoxR wr bx A n c p ∧ Below w0.heap.size w0 wr) (fun i _ => n - (intOf i).toNat)
  case atStart => exact ⟨0, by omega, rfl, h0, hbox, hbel⟩
  case round =>
    clear b0 b1 hbox hbel h0
    obtain ⟨k, hk, rfl, hJk, hbox, hbel⟩ := hrel
    have b1 : wr.cell? ⟨bx, 1, none⟩ = some (.int .i64 (p : Int)) := hbox.cell (j := 1) undef (by simp)
    by_cases hlt : k < n
    · obtain ⟨b, off, rfl, -, hcell⟩ := (hx.below hbel).get hlt
      have c1 := hcell k hlt
      clear hcell
      have hy0 := HY.out k wr hlt hJk
      unfold allRow rowN at hy0
      have d0 : decide ((k : Int) < (n : Int)) = true := by simp; omega
      by_cases hkp : k < p
      · rw [if_pos hkp] at hy0
        have d1 : decide ((p : Int) ≤ (k : Int)) = false := by simp; omega
        have d2 : decide (p ≤ k) = false := by simp; omega
        obtain ⟨fn, tmps, assign, body, hy, hR⟩ := hy0
        gi_wp2
        refine hR.mono ?_
        rintro e W3 (⟨rfl, hJ3, hk3⟩ | ⟨rfl, hJx3⟩)
        · clear hR hy
          gi_wp2
          go_roundw
          case rel => exact ⟨k + 1, by omega, by go_num, hJ3, hk3.1.trans hbox, hbel.trans hk3.2⟩
          case measure => simp [intOf]; omega
        · clear hR hy
          gi_wp2
          refine bodyPost_ret (results_none rfl _ _ _) rfl ?_
          exact ⟨⟨_, rfl⟩, .inr ⟨k + 1, hlt, hJx3⟩⟩
      · rw [if_neg hkp] at hy0
        have d1 : decide ((p : Int) ≤ (k : Int)) = true := by simp; omega
        have d2 : decide (p ≤ k) = true := by simp; omega
        rw [show ((k + 1 : Nat) : Int) = (k : Int) + 1 by omega] at hy0
        obtain ⟨fn, tmps, assign, body, hy, hR⟩ := hy0
        gi_wp2
        refine hR.mono ?_
        rintro e W3 (⟨rfl, hJ3, hk3⟩ | ⟨rfl, hJx3⟩)
        · clear hR hy
          gi_wp2
          go_roundw
          case rel => exact ⟨k + 1, by omega, by go_num, hJ3, hk3.1.trans hbox, hbel.trans hk3.2⟩
          case measure => simp [intOf]; omega
        · clear hR hy
          gi_wp2
          refine bodyPost_ret (results_none rfl _ _ _) rfl ?_
          exact ⟨⟨_, rfl⟩, .inr ⟨k + 1, hlt, hJx3⟩⟩
    · obtain rfl : k = n := by omega
      gi_wp2
      go_end0
      exact ⟨⟨_, rfl⟩, .inl hJk⟩
end Go.Proofs.Ytoodfmilleodaaa
