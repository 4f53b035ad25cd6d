/- Hexadecimal digits: plainly, as the assembler reads them, and as strconv.FormatInt writes them. -/
import Derived.Test.YtlbhggjkcfcobaaDoorJb
namespace Go.Proofs.YtlbhggjkcfcobaaDoor
open Go.RowKit Go.Proofs
set_option linter.unusedVariables false

def hxB (d : Nat) : UInt8 := if d < 10 then UInt8.ofNat (48 + d) else UInt8.ofNat (87 + d)
def hxS (n : Nat) : List UInt8 := if h : n < 16 then [hxB n] else hxS (n / 16) ++ [hxB (n % 16)]
termination_by n
decreasing_by omega
theorem hxS_small {n : Nat} (h : n < 16) : hxS n = [hxB n] := by rw [hxS, dif_pos h]
theorem hxS_big {n : Nat} (h : ¬ n < 16) : hxS n = hxS (n / 16) ++ [hxB (n % 16)] := by rw [hxS, dif_neg h]
theorem hxS_ne (n : Nat) : hxS n ≠ [] := by
  by_cases h : n < 16
  · rw [hxS_small h]; simp
  · rw [hxS_big h]; simp
theorem hexD_hxB : ∀ d : Fin 16, hexD (hxB d.val) = d.val := by decide +kernel
theorem hxS_len : ∀ (k m : Nat), m < 16 ^ (k + 1) → (hxS m).length ≤ k + 1
  | 0, m, h => by rw [hxS_small (by simpa using h)]; simp
  | k + 1, m, h => by
    by_cases hm : m < 16
    · rw [hxS_small hm]; simp
    · rw [hxS_big hm, List.length_append]
      have := hxS_len k (m / 16) (by rw [Nat.pow_succ] at h; omega)
      simp; omega
theorem digF_hex (n : Nat) : digF 16 (hxS n) 0 = some n := by
  induction n using Nat.strongRecOn with
  | _ n ih =>
    by_cases h : n < 16
    · rw [hxS_small h]
      have := hexD_hxB ⟨n, h⟩
      dsimp only at this
      simp [digF, this]
      omega
    · have := hexD_hxB ⟨n % 16, Nat.mod_lt _ (by omega)⟩
      dsimp only at this
      rw [hxS_big h, digF_snoc, ih _ (by omega), Option.bind_some, this, if_neg (by omega)]
      congr 1
      omega
theorem numL_hxS {n : Nat} (h : n < 4294967296) : numL (48 :: 120 :: hxS n) = some n := by
  unfold numL
  have hne := List.length_pos_iff.2 (hxS_ne n)
  have hl := hxS_len 7 n (by omega)
  rw [if_pos ⟨by simp; omega, rfl⟩]
  show (if 8 < (hxS n).length then none else (digF 16 (hxS n) 0).bind fun n => if n < 4294967296 then some n else none) = some n
  rw [if_neg (by omega), digF_hex, Option.bind_some, if_pos h]
theorem hxB_fit : ∀ d : Fin 16, (48 ≤ (hxB d.val).toNat ∧ (hxB d.val).toNat ≤ 57) ∨ 97 ≤ (hxB d.val).toNat := by decide +kernel
theorem hxS_fit (n : Nat) : ∀ b ∈ hxS n, (48 ≤ b.toNat ∧ b.toNat ≤ 57) ∨ 97 ≤ b.toNat := by
  induction n using Nat.strongRecOn with
  | _ n ih =>
    intro b hb
    by_cases h : n < 16
    · rw [hxS_small h] at hb
      rw [List.mem_singleton] at hb
      rw [hb]; exact hxB_fit ⟨n, h⟩
    · rw [hxS_big h] at hb
      rcases List.mem_append.1 hb with hb | hb
      · exact ih _ (by omega) b hb
      · rw [List.mem_singleton] at hb
        rw [hb]; exact hxB_fit ⟨n % 16, Nat.mod_lt _ (by omega)⟩

def digL36 : List UInt8 := [48, 49, 50, 51, 52, 53, 54, 55, 56, 57, 97, 98, 99, 100, 101, 102, 103, 104, 105, 106, 107, 108, 109, 110, 111, 112, 113, 114, 115, 116, 117, 118, 119, 120, 121, 122]
theorem digL36_hx : ∀ d : Fin 16, digL36.getD d.val 0 = hxB d.val := by decide +kernel
theorem run_index_u64 (x : List UInt8) {k : Nat} (hk : k < x.length) (W : World) : (Instr.index 9 (.string (strB x)) (.int .u64 (k : Int))).run Tryd.prog W = .ok (.int .u8 ((x.getD k 0).toNat : Int)) W := by
  rw [run_index_string W 9 (strB x) .u64 (k : Int) uS]
  have h2 : 0 ≤ (k : Int) ∧ (k : Int) < ((strB x).size : Int) := ⟨by omega, by rw [strB_size']; omega⟩
  rw [dif_pos h2]
  have h3 : ∀ (j : Nat) (hj : j < (strB x).size), (strB x)[j] = x.getD j 0 := fun j hj => by
    have hj' : j < x.length := hj
    rw [List.getD_eq_getElem?_getD, List.getElem?_eq_getElem hj']
    rfl
  rw [h3]
  rfl
theorem hexIdx {d : Nat} (hd : d < 16) (W : World) : (Instr.index 9 (.string ⟨#[48, 49, 50, 51, 52, 53, 54, 55, 56, 57, 97, 98, 99, 100, 101, 102, 103, 104, 105, 106, 107, 108, 109, 110, 111, 112, 113, 114, 115, 116, 117, 118, 119, 120, 121, 122]⟩) (.int .u64 (d : Int))).run Tryd.prog W = .ok (.int .u8 ((hxB d).toNat : Int)) W := by
  have := run_index_u64 digL36 (k := d) (by show d < 36; omega) W
  rw [digL36_hx ⟨d, hd⟩] at this
  exact this
theorem and15 (n : Nat) (hn : n < 4294967296) : bits .and .u64 (n : Int) 15 = ((n % 16 : Nat) : Int) := by
  have := u64_and_nat n 15 (by omega) (by omega)
  rw [show ((15 : Nat) : Int) = 15 from rfl] at this
  rw [this, show (15 : Nat) = 2 ^ 4 - 1 from rfl, Nat.and_two_pow_sub_one_eq_mod]
/-- the table's cell that TrailingZeros64 reads at sixteen. -/
def T64 (w : World) : Prop := w.cell? ⟨5, 15, none⟩ = some (.int .u8 4)
theorem T64.below {w w' : World} (h : T64 w) (hb : Below w.heap.size w w') : T64 w' := (hb.cell (p := ⟨5, 15, none⟩) (World.block_lt_of_cell? w _ h)).trans h
theorem tz16_any (w : World) (hT : T64 w) : Calls Tryd.prog 109 #[.int .u64 16] w fun e w' => e = .returned (.int .i64 4) ∧ w' = w := by
  have h : w.cell? ⟨5, 15, none⟩ = some (.int .u8 4) := hT
  clear hT
  have hN : IntKind.u64.wrap (-16) = 18446744073709551600 := by decide
  have hA : bits .and .u64 16 18446744073709551600 = 16 := by
    have := u64_and_nat 16 18446744073709551600 (by decide) (by decide)
    exact this.trans (by decide +kernel)
  have hM : IntKind.u64.wrap 4573923408821661840 = 4573923408821661840 := by decide
  go_enter Tryd.func109, Tryd.ntmps109
  go_wp2_with fail
  go_ret
  exact ⟨rfl, rfl⟩
theorem tz_any (w : World) (hT : T64 w) : Calls Tryd.prog 89 #[.int .u64 16] w fun e w' => e = .returned (.int .i64 4) ∧ w' = w := by
  have H := Lib.hid (tz16_any w hT)
  clear hT
  go_enter Tryd.func89, Tryd.ntmps89
  go_wp2_with fail
  refine H.out.mono ?_
  rintro e w1 ⟨rfl, hw1⟩
  obtain rfl : w = w1 := hw1.symm
  go_wp2_with fail
  go_ret
  exact ⟨rfl, rfl⟩
theorem pow2_any (w : World) : Calls Tryd.prog 88 #[.int .i64 16] w fun e w' => e = .returned (.bool true) ∧ w' = w := by
  have h : bits .and .i64 16 15 = 0 := by decide
  go_enter Tryd.func88, Tryd.ntmps88
  go_wp2_with fail
  go_ret
  exact ⟨rfl, rfl⟩
end Go.Proofs.YtlbhggjkcfcobaaDoor
