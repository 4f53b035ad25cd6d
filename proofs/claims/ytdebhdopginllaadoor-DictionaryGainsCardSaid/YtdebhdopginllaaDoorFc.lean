/- Walks of the rune decoder (by its contract) and of the words' predicate. -/
import Derived.Test.YtdebhdopginllaaDoorFb
import Derived.Test.YtdebhdopginllaaDoorDa
import Derived.Test.YtdebhdopginllaaDoorDec
namespace Go.Proofs.YtdebhdopginllaaDoor
open Go.RowKit Go.Proofs
set_option linter.unusedVariables false
attribute [local go_sem] Oper.semAt_some

/-- the two tables of the rune decoder lie in this world. -/
def Tabs (w : World) : Prop := Lib.Utf8Tabs (Tryd.dec32_ren.g 2) (Tryd.dec32_ren.g 3) w
theorem Tabs.below {w w' : World} (h : Tabs w) (hb : Below w.heap.size w w') : Tabs w' := Utf8Tabs_below h hb

theorem decode_any (A : Option Addr) (c n : Nat) (bs : List UInt8) (w : World) (hx : Bytes w A n c bs) (hT : Tabs w) (hn : 0 < n) :
    Calls Tryd.prog 41 #[.slice A n c] w fun e w' => e = .returned (.tuple #[.int .i32 ((runeL bs).1 : Int), .int .i64 ((runeL bs).2 : Int)]) ∧ Below w.heap.size w w' := by
  obtain ⟨b, off, rfl, hb, hc⟩ := hx.get hn
  have h := Any7.utf8_DecodeRune Tryd.dec32 (baL bs) b off c w hT (fun j hj => by
    rw [baL_size, hx.1] at hj
    rw [hc j hj, baL_get])
  rw [baL_size, hx.1] at h
  exact h

set_option maxHeartbeats 400000 in
theorem notLetter_any (x : Int) (w : World) : Calls Tryd.prog 28 #[.int .i32 x] w fun e w' => e = .returned (.bool (!letterI x)) ∧ w' = w := by
  by_cases h1 : 97 ≤ x
  · by_cases h2 : x ≤ 122
    · have hfin : Hid ((!letterI x) = false) := by show _ = _; simp [letterI, h1, h2]
      have d1 : decide (97 ≤ x) = true := by simpa using h1
      have d2 : decide (x ≤ 122) = true := by simpa using h2
      go_enter Tryd.func28, Tryd.ntmps28
      go_wp2
      go_ret
      exact ⟨ret_bool hfin.out.symm, rfl⟩
    · have hfin : Hid ((!letterI x) = true) := by show _ = _; simp [letterI, h1, h2]; omega
      have d1 : decide (97 ≤ x) = true := by simpa using h1
      have d2 : decide (x ≤ 122) = false := by simpa using h2
      have d3 : decide (65 ≤ x) = true := by simp; omega
      have d4 : decide (x ≤ 90) = false := by simp; omega
      go_enter Tryd.func28, Tryd.ntmps28
      go_wp2
      go_ret
      exact ⟨ret_bool hfin.out.symm, rfl⟩
  · have d1 : decide (97 ≤ x) = false := by simpa using h1
    by_cases h3 : 65 ≤ x
    · have hfin : Hid ((!letterI x) = !decide (x ≤ 90)) := by show _ = _; simp [letterI, h1, h3]
      have d3 : decide (65 ≤ x) = true := by simpa using h3
      go_enter Tryd.func28, Tryd.ntmps28
      go_wp2
      go_ret
      exact ⟨ret_bool hfin.out.symm, rfl⟩
    · have hfin : Hid ((!letterI x) = true) := by show _ = _; simp [letterI, h1, h3]
      have d3 : decide (65 ≤ x) = false := by simpa using h3
      go_enter Tryd.func28, Tryd.ntmps28
      go_wp2
      go_ret
      exact ⟨ret_bool hfin.out.symm, rfl⟩
end Go.Proofs.YtdebhdopginllaaDoor
