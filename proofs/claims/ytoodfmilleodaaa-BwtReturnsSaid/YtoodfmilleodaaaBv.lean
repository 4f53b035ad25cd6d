/- short of layer 33's statements. -/
import Derived.Test.YtoodfmilleodaaaBu
namespace Go.Proofs.Ytoodfmilleodaaa
open Go.RowKit Go.Proofs Go.Sort
set_option linter.unusedVariables false

/-- neither short nor longer than allowed. -/
def badN (n : Nat) : Bool := decide (200 < n ∧ n ≤ 65536 ∨ 65545 < n)
set_option maxHeartbeats 400000 in
theorem short1_any (A : Option Addr) (n c : Nat) (w : World) : Calls Try.prog 45 #[.slice A n c] w fun e w' => e = .returned (.bool (badN n)) ∧ w' = w := by
  by_cases h1 : 200 < n
  · have d1 : decide ((200 : Int) < (n : Int)) = true := by simp; omega
    by_cases h2 : n ≤ 65536
    · have d2 : decide ((n : Int) ≤ 65536) = true := by simp; omega
      have hf : Hid (badN n = true) := by show _ = _; unfold badN; simp; omega
      go_enter Try.func45, Try.ntmps45
      go_wp2_with fail
      go_ret
      exact ⟨ret_bool hf.out.symm, rfl⟩
    · have d2 : decide ((n : Int) ≤ 65536) = false := by simp; omega
      by_cases h3 : 65545 < n
      · have d3 : decide ((65545 : Int) < (n : Int)) = true := by simp; omega
        have hf : Hid (badN n = true) := by show _ = _; unfold badN; simp; omega
        go_enter Try.func45, Try.ntmps45
        go_wp2_with fail
        go_ret
        exact ⟨ret_bool hf.out.symm, rfl⟩
      · have d3 : decide ((65545 : Int) < (n : Int)) = false := by simp; omega
        have hf : Hid (badN n = false) := by show _ = _; unfold badN; simp; omega
        go_enter Try.func45, Try.ntmps45
        go_wp2_with fail
        go_ret
        exact ⟨ret_bool hf.out.symm, rfl⟩
  · have d1 : decide ((200 : Int) < (n : Int)) = false := by simp; omega
    have d3 : decide ((65545 : Int) < (n : Int)) = false := by simp; omega
    have hf : Hid (badN n = false) := by show _ = _; unfold badN; simp; omega
    go_enter Try.func45, Try.ntmps45
    go_wp2_with fail
    go_ret
    exact ⟨ret_bool hf.out.symm, rfl⟩

/-- a slice's header as a value. -/
def encSl (x : Option Addr × Nat × Nat) : Value := .slice x.1 x.2.1 x.2.2
def sl (xs : List (Option Addr × Nat × Nat)) (k : Nat) : Option Addr × Nat × Nat := xs.getD k (none, 0, 0)
def anyBad (xs : List (Option Addr × Nat × Nat)) (k : Nat) : Bool := (xs.take k).any fun x => badN x.2.1
theorem anyBad_next {xs : List (Option Addr × Nat × Nat)} {k : Nat} (hk : k < xs.length) : anyBad xs (k + 1) = (anyBad xs k || badN (sl xs k).2.1) := by
  unfold anyBad sl
  rw [List.take_succ_eq_append_getElem hk, List.any_append]
  simp [List.getD, hk]
theorem anyBad_mono {xs : List (Option Addr × Nat × Nat)} {k : Nat} (h : anyBad xs k = true) : anyBad xs xs.length = true := by
  unfold anyBad at h ⊢
  rw [List.take_length]
  rw [List.any_eq_true] at h ⊢
  obtain ⟨x, hx, hb⟩ := h
  exact ⟨x, List.mem_of_mem_take hx, hb⟩
theorem indexFunc_any (A : Option Addr) (m c : Nat) (xs : List (Option Addr × Nat × Nat)) (w : World) (hl : xs.length = m) (hm : m ≤ 1000000) (hx : Cells w A m (fun i => encSl (sl xs i))) :
    Calls Try.prog 69 #[.slice A m c, .func (.func 45) #[] #[]] w fun e w' => (∃ z : Int, e = .returned (.int .i64 z) ∧ decide (0 ≤ z) = anyBad xs xs.length) ∧ w' = w := by
  have Hl := Lib.hid hl; clear hl
  go_enter Try.func69, Try.ntmps69
  go_wp2_with fail
  go_loop [5, 8] (fun _ i => ∃ k : Nat, k ≤ m ∧ i = .int .i64 (k : Int) ∧ Hid (anyBad xs k = false)) (fun _ i => m - (intOf i).toNat)
  case atStart => exact ⟨0, Nat.zero_le _, rfl, rfl⟩
  case round =>
    obtain ⟨k, hk, rfl, HB⟩ := hrel
    by_cases hlt : k < m
    · have dk : decide ((k : Int) < (m : Int)) = true := by simp; omega
      have dk' : decide (k < m) = true := by simp; omega
      obtain ⟨b, off, rfl, hb, hc⟩ := hx (by omega)
      have c1 := hc k hlt
      unfold encSl at c1
      clear hc
      have hnx : Hid (anyBad xs (k + 1) = badN (sl xs k).2.1) := by show _ = _; rw [anyBad_next (by rw [Hl.out]; exact hlt), HB.out, Bool.false_or]
      have Hs := Lib.hid (short1_any (sl xs k).1 (sl xs k).2.1 (sl xs k).2.2 w)
      cases hbad : badN (sl xs k).2.1 with
      | true =>
        rw [hbad] at hnx Hs
        clear hbad
        go_wp2_with fail
        refine Hs.out.mono ?_
        rintro e w1 ⟨rfl, hw1⟩
        obtain rfl : w = w1 := hw1.symm
        go_wp2_with fail
        go_ret
        exact ⟨⟨(k : Int), rfl, by rw [anyBad_mono hnx.out]; simp⟩, rfl⟩
      | false =>
        rw [hbad] at hnx Hs
        clear hbad
        go_wp2_with fail
        refine Hs.out.mono ?_
        rintro e w1 ⟨rfl, hw1⟩
        obtain rfl : w = w1 := hw1.symm
        go_wp2_with fail
        go_round
        case rel => exact ⟨k + 1, by omega, by go_num, hnx.out⟩
        case measure => simp [intOf]; omega
    · have dk : decide ((k : Int) < (m : Int)) = false := by simp; omega
      have dk' : decide (k < m) = false := by simp; omega
      have he : Hid (anyBad xs xs.length = false) := by show _ = _; rw [Hl.out, ← show k = m by omega]; exact HB.out
      go_wp2_with fail
      go_ret
      exact ⟨⟨-1, rfl, by rw [he.out]; rfl⟩, rfl⟩
theorem short_any (A : Option Addr) (m c : Nat) (xs : List (Option Addr × Nat × Nat)) (w : World) (hl : xs.length = m) (hm : m ≤ 1000000) (hx : Cells w A m (fun i => encSl (sl xs i))) :
    Calls Try.prog 20 #[.slice A m c] w fun e w' => e = .returned (.bool (!anyBad xs xs.length)) ∧ w' = w := by
  have Hi := Lib.hid (indexFunc_any A m c xs w hl hm hx)
  clear hl hm
  have Hc : Hid (Calls Try.prog 44 #[.slice A m c, .func (.func 45) #[] #[]] w fun e w' => e = .returned (.bool (anyBad xs xs.length)) ∧ w' = w) := by
    show Calls _ _ _ _ _
    go_enter Try.func44, Try.ntmps44
    go_wp2_with fail
    refine Hi.out.mono ?_
    rintro e w1 ⟨⟨z, rfl, hz⟩, hw1⟩
    obtain rfl : w = w1 := hw1.symm
    go_wp2_with fail
    go_ret
    exact ⟨rfl, rfl⟩
  clear Hi hx
  go_enter Try.func20, Try.ntmps20
  go_wp2_with fail
  refine Hc.out.mono ?_
  rintro e w1 ⟨rfl, hw1⟩
  obtain rfl : w = w1 := hw1.symm
  go_wp2_with fail
  go_ret
  exact ⟨rfl, rfl⟩
end Go.Proofs.Ytoodfmilleodaaa
