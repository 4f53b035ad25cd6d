/- Np Nq Ns. -/
import Derived.Test.YtohadkmaemmfgaaGreatDoorRI23
import Derived.Test.YtohadkmaemmfgaaGreatDoorRI59
import Derived.Test.YtohadkmaemmfgaaGreatDoorRI24
import Derived.Test.YtohadkmaemmfgaaGreatDoorRI33
import Derived.Test.YtohadkmaemmfgaaGreatDoorRI30
import Derived.Test.YtohadkmaemmfgaaGreatDoorRI03
import Derived.Test.YtohadkmaemmfgaaGreatDoorRI57
set_option maxRecDepth 100000
set_option maxHeartbeats 4000000
namespace Go.Proofs.YtohadkmaemmfgaaGreatDoor
open Go.RowKit Go.Proofs
set_option linter.unusedVariables false
set_option linter.unusedSimpArgs false

def cntD (l : List Stg) : Nat := (l.filter fun s => s.1 == 5).length
def calmB (l : List Stg) : Bool := decide (cntD l ≤ 2)
theorem cntD_le (l : List Stg) : cntD l ≤ l.length := List.length_filter_le _ _
theorem cntD_next {l : List Stg} {k : Nat} (h : k < l.length) : cntD (l.take (k + 1)) = cntD (l.take k) + if (sG l k).1 = 5 then 1 else 0 := by
  have e : l[k]? = some (sG l k) := by unfold sG; rw [List.getD_eq_getElem?_getD, List.getElem?_eq_getElem h]; rfl
  unfold cntD
  rw [List.take_add_one, e]
  simp only [Option.toList_some, List.filter_append, List.length_append]
  congr 1
  by_cases h5 : (sG l k).1 = 5
  · rw [if_pos h5]; simp [h5]
  · rw [if_neg h5]; simp [h5]
theorem calm_any (A : Option Addr) (n c : Nat) (l : List Stg) (w : World) (hx : Stgs w A n c l) (hn : n ≤ maxLen) :
    Calls Tryz.prog 11 #[.slice A n c] w fun e w' => e = .returned (.bool (calmB l)) ∧ w' = w := by
  have hl := hx.1
  have hn' : n ≤ 9223372036854775807 := hn
  have HX := Lib.hid hx
  have HL := Lib.hid hl
  have HN : Hid (∀ k, k < n → cntD (l.take (k + 1)) = cntD (l.take k) + if (sG l k).1 = 5 then 1 else 0) := fun k hk => cntD_next (by omega)
  have HC : Hid (calmB l = decide (((cntD (l.take n) : Nat) : Int) ≤ 2)) := by
    unfold Hid calmB
    rw [← hl, List.take_length]
    simp only [decide_eq_decide]
    omega
  obtain ⟨f, hf⟩ : ∃ f : Nat → Nat, f = fun k => cntD (l.take k) := ⟨_, rfl⟩
  have hf0 : f 0 = 0 := by rw [hf]; rfl
  have HF : Hid (∀ k, cntD (l.take k) = f k) := fun k => by rw [hf]
  have hfl : ∀ k, k ≤ n → f k ≤ k := fun k hk => by
    rw [hf]
    have := cntD_le (l.take k)
    rw [List.length_take] at this
    exact Nat.le_trans this (Nat.min_le_left _ _)
  have HFL := Lib.hid hfl
  rw [HC.out, HF.out]
  clear hx hl hn hf hfl
  go_enter Tryz.func11, Tryz.ntmps11
  go_wp2_with fail
  go_loop [3, 4] (fun q i => ∃ k : Nat, k ≤ n ∧ i = .int .i64 (k : Int) ∧ q = .int .i64 ((f k : Nat) : Int)) (fun _ i => n - (intOf i).toNat)
  case atStart => exact ⟨0, Nat.zero_le _, rfl, by rw [hf0]; rfl⟩
  case round =>
    obtain ⟨k, hk, rfl, rfl⟩ := hrel
    have hfk := HFL.out k hk
    by_cases hlt : k < n
    · have d0 : decide ((k : Int) < (n : Int)) = true := decide_eq_true (by omega)
      have d0' : decide (k < n) = true := decide_eq_true hlt
      obtain ⟨b1, o1, rfl, -, c1, c2⟩ := HX.out.cell hlt
      have hnx := HN.out k hlt
      rw [HF.out, HF.out] at hnx
      have hcap := HX.out.2.1
      obtain ⟨u, hu⟩ : ∃ u, u = (sG l k).1 := ⟨_, rfl⟩
      rw [← hu] at c1 hnx
      obtain ⟨g, hg⟩ : ∃ g, g = f (k + 1) := ⟨_, rfl⟩
      rw [← hg] at hnx
      obtain ⟨g0, hg0⟩ : ∃ g0, g0 = f k := ⟨_, rfl⟩
      rw [← hg0] at hnx hfk
      rw [← hg0]
      have HG := Lib.hid hg
      clear hu hg hg0 c2
      by_cases h5 : u = 5
      · have q0 : (u == 5) = true := by simp [h5]
        rw [if_pos h5] at hnx
        clear h5
        go_wp2_with fail
        go_round
        case rel => exact ⟨k + 1, by omega, by go_num, by rw [← HG.out, hnx]; go_num⟩
        case measure => (simp [intOf]) <;> omega
      · have q0 : (u == 5) = false := by simp [h5]
        rw [if_neg h5] at hnx
        clear h5
        go_wp2_with fail
        go_round
        case rel => exact ⟨k + 1, by omega, by go_num, by rw [← HG.out, hnx]; rfl⟩
        case measure => (simp [intOf]) <;> omega
    · obtain rfl : k = n := by omega
      have d0 : decide ((k : Int) < (k : Int)) = false := decide_eq_false (by omega)
      have d0' : decide (k < k) = false := decide_eq_false (by omega)
      go_wp2_with fail
      go_ret
      exact ⟨rfl, rfl⟩
def fewB (l : List Stg) (n : Nat) : Bool := decide (l.length ≤ 20) && (decide (n ≤ 200) && calmB l)
theorem few_any (A : Option Addr) (n c : Nat) (l : List Stg) (A' : Option Addr) (n' c' : Nat) (w : World) (hx : Stgs w A n c l) :
    Calls Tryz.prog 5 #[.slice A n c, .slice A' n' c'] w fun e w' => e = .returned (.bool (fewB l n')) ∧ w' = w := by
  have hl := hx.1
  unfold fewB
  rw [hl]
  by_cases h1 : n ≤ 20
  · have d1 : decide ((n : Int) ≤ 20) = true := decide_eq_true (by omega)
    have d1' : decide (n ≤ 20) = true := decide_eq_true h1
    by_cases h2 : n' ≤ 200
    · have d2 : decide ((n' : Int) ≤ 200) = true := decide_eq_true (by omega)
      have d2' : decide (n' ≤ 200) = true := decide_eq_true h2
      have HC := Lib.hid (calm_any A n c l w hx (by unfold maxLen; omega))
      obtain ⟨q, hq⟩ : ∃ q, q = calmB l := ⟨_, rfl⟩
      rw [← hq] at HC ⊢
      clear hq hl hx h1 h2
      rw [d1', d2']
      go_enter Tryz.func5, Tryz.ntmps5
      go_wp2_with fail
      refine HC.out.mono ?_
      rintro e w1 ⟨rfl, hw⟩
      obtain rfl : w = w1 := hw.symm
      go_wp2_with fail
      go_ret
      exact ⟨rfl, rfl⟩
    · have d2 : decide ((n' : Int) ≤ 200) = false := decide_eq_false (by omega)
      have d2' : decide (n' ≤ 200) = false := decide_eq_false h2
      rw [d1', d2']
      clear hl hx h1 h2
      go_enter Tryz.func5, Tryz.ntmps5
      go_wp2_with fail
      go_ret
      exact ⟨rfl, rfl⟩
  · have d1 : decide ((n : Int) ≤ 20) = false := decide_eq_false (by omega)
    have d1' : decide (n ≤ 20) = false := decide_eq_false h1
    rw [d1']
    clear hl hx h1
    go_enter Tryz.func5, Tryz.ntmps5
    go_wp2_with fail
    go_ret
    exact ⟨rfl, rfl⟩
section
variable (A : Option Addr) (n c : Nat) (l : List Stg) (A' : Option Addr) (m c' : Nat) (k : List Stg) (B : Option Addr) (nb cb : Nat) (bs : List UInt8) (w : World)
end
end Go.Proofs.YtohadkmaemmfgaaGreatDoor
