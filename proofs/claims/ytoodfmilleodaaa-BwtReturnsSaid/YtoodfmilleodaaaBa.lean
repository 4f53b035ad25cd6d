/- Contracts of the small functions of layer 33: Byte, limits, at. -/
import Derived.Test.YtoodfmilleodaaaProg
import Derived.Test.YtoodfmilleodaaaWf
import Derived.Test.YtoodfmilleodaaaRg
import Derived.Deep.WholeRow
namespace Go.Proofs.Ytoodfmilleodaaa
open Go.RowKit Go.Proofs
set_option linter.unusedVariables false

/-- the byte of row r, where row p has none. -/
def byteR (bs : List UInt8) (p r : Nat) : Int := if r < p then gb bs r else gb bs (r - 1)
def rowsV (A : Option Addr) (n c p : Nat) : Value := .agg #[.slice A n c, .int .i64 (p : Int)]

theorem Bytes.alloc {w : World} {A : Option Addr} {n c : Nat} {bs : List UInt8} (h : Bytes w A n c bs) (o : Obj) : Bytes (w.alloc o) A n c bs := h.below ((Below.refl _ _).alloc (Nat.le_refl _) _)

theorem at_any (A : Option Addr) (n c p r : Nat) (bs : List UInt8) (w : World) (hx : Bytes w A n c bs) (hn : n ≤ 65536) (hp : p ≤ n) (hr : r ≤ n) (hne : r ≠ p) :
    Calls Try.prog 60 #[rowsV A n c p, .int .i64 (r : Int)] w fun e w' => e = .returned (.int .u8 (byteR bs p r)) ∧ Below w.heap.size w w' := by
  unfold rowsV
  have h0 : 0 < n := by omega
  have hy := fun o => hx.alloc o
  obtain ⟨b, off, rfl, hb, hcell⟩ := hx.get h0
  have hbel := (Below.refl w.heap.size w).alloc (Nat.le_refl _)
  by_cases hlt : r < p
  · have d1 : decide (p < r) = false := by simp; omega
    have d2 : decide ((p : Int) < (r : Int)) = false := by simp; omega
    have hrn : r < n := by omega
    have c1 := fun o => (hy o).cell hrn
    have hv : Hid (byteR bs p r = gb bs r) := by show _ = _; unfold byteR; rw [if_pos hlt]
    clear hy hcell hne
    go_enter Try.func60, Try.ntmps60
    go_wp2_with fail
    go_ret
    exact ⟨ret_int hv.out.symm, hbel _⟩
  · have d1 : decide (p < r) = true := by simp; omega
    have d2 : decide ((p : Int) < (r : Int)) = true := by simp; omega
    have hrn : r - 1 < n := by omega
    have hr1 : (1 : Int) ≤ r := by omega
    have c1 := fun o => (hy o).cell hrn
    have hv : Hid (byteR bs p r = gb bs (r - 1)) := by show _ = _; unfold byteR; rw [if_neg hlt]
    clear hy hcell
    go_enter Try.func60, Try.ntmps60
    go_wp2_with fail
    go_ret
    exact ⟨ret_int hv.out.symm, hbel _⟩

theorem byte_any (A : Option Addr) (n c p r : Nat) (bs : List UInt8) (w : World) (hx : Bytes w A n c bs) (hn : n ≤ 65536) (hp : p ≤ n) (hr : r ≤ n) (hne : r ≠ p) :
    Calls Try.prog 48 #[.slice A n c, .int .i64 (p : Int), .int .i64 (r : Int)] w fun e w' => e = .returned (.int .u8 (byteR bs p r)) ∧ w' = w := by
  have h0 : 0 < n := by omega
  obtain ⟨b, off, rfl, hb, hcell⟩ := hx.get h0
  by_cases hlt : r < p
  · have d1 : decide (r < p) = true := by simp; omega
    have d2 : decide ((r : Int) < (p : Int)) = true := by simp; omega
    have hrn : r < n := by omega
    have c1 := hx.cell hrn
    have hv : Hid (byteR bs p r = gb bs r) := by show _ = _; unfold byteR; rw [if_pos hlt]
    clear hcell hne
    go_enter Try.func48, Try.ntmps48
    go_wp2_with fail
    go_ret
    exact ⟨ret_int hv.out.symm, rfl⟩
  · have d1 : decide (r < p) = false := by simp; omega
    have d2 : decide ((r : Int) < (p : Int)) = false := by simp; omega
    have hrn : r - 1 < n := by omega
    have hr1 : (1 : Int) ≤ r := by omega
    have c1 := hx.cell hrn
    have hv : Hid (byteR bs p r = gb bs (r - 1)) := by show _ = _; unfold byteR; rw [if_neg hlt]
    clear hcell
    go_enter Try.func48, Try.ntmps48
    go_wp2_with fail
    go_ret
    exact ⟨ret_int hv.out.symm, rfl⟩

/-- the error of a transformed string. -/
def limE (n : Nat) (p : Int) : Int := if 65536 < n then 5 else if p < 0 ∨ (n : Int) < p then 2 else 0
theorem limits_any (A : Option Addr) (n c : Nat) (p : Int) (w : World) (hn : n ≤ 1000000000) :
    Calls Try.prog 47 #[.slice A n c, .int .i64 p] w fun e w' => e = .returned (.int .i64 (limE n p)) ∧ w' = w := by
  unfold limE
  by_cases h1 : 65536 < n
  · have d1 : decide ((65536 : Int) < (n : Int)) = true := by simp; omega
    rw [if_pos h1]
    go_enter Try.func47, Try.ntmps47
    go_wp2_with fail
    go_ret
    exact ⟨rfl, rfl⟩
  · have d1 : decide ((65536 : Int) < (n : Int)) = false := by simp; omega
    rw [if_neg h1]
    by_cases h2 : p < 0
    · have d2 : decide (p < 0) = true := by simp; omega
      rw [if_pos (.inl h2)]
      go_enter Try.func47, Try.ntmps47
      go_wp2_with fail
      go_ret
      exact ⟨rfl, rfl⟩
    · have d2 : decide (p < 0) = false := by simp; omega
      by_cases h3 : (n : Int) < p
      · have d3 : decide ((n : Int) < p) = true := by simp; omega
        rw [if_pos (.inr h3)]
        go_enter Try.func47, Try.ntmps47
        go_wp2_with fail
        go_ret
        exact ⟨rfl, rfl⟩
      · have d3 : decide ((n : Int) < p) = false := by simp; omega
        rw [if_neg (by omega)]
        go_enter Try.func47, Try.ntmps47
        go_wp2_with fail
        go_ret
        exact ⟨rfl, rfl⟩
end Go.Proofs.Ytoodfmilleodaaa
