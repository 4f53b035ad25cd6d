/- Contract of layer 15: Find. -/
import Derived.Test.YtlbhggjkcfcobaaDoorAc
namespace Go.Proofs.YtlbhggjkcfcobaaDoor
open Go.RowKit Go.Proofs
set_option linter.unusedVariables false

def findN (s : List UInt8) : Int := match findL s with | some k => (k : Int) | none => 0
theorem findL_hit {s : List UInt8} {k : Nat} (hk : k < 36) (h : ∀ j, j < k → (opO j).name ≠ s) (he : (opO k).name = s) : findL s = some k := by
  unfold findL
  rw [List.find?_range_eq_some]
  exact ⟨by simpa using he, by simpa using hk, fun j hj => by simpa using h j hj⟩
theorem findL_miss {s : List UInt8} (h : ∀ j, j < 36 → (opO j).name ≠ s) : findL s = none := by
  unfold findL
  rw [List.find?_eq_none]
  intro x hx
  simpa using h x (List.mem_range.1 hx)
set_option maxRecDepth 100000 in
set_option maxHeartbeats 2000000 in
theorem find_any (s : List UInt8) (w : World) : Calls Tryd.prog 73 #[.string (strB s)] w fun e w' => e = .returned (.tuple #[.int .i64 (findN s), .bool (findL s).isSome]) ∧ Below w.heap.size w w' := by
  have H1 := Lib.hid (operations_any w)
  have HI := Lib.hid (fun k hk W => run_index_ops (k := k) hk W)
  obtain ⟨fn, hfn⟩ : ∃ fn, fn = findN s := ⟨_, rfl⟩
  obtain ⟨fb, hfb⟩ : ∃ fb, fb = (findL s).isSome := ⟨_, rfl⟩
  have HF : Hid (fn = findN s ∧ fb = (findL s).isSome) := ⟨hfn, hfb⟩
  rw [← hfn, ← hfb]
  clear hfn hfb
  go_enter Tryd.func73, Tryd.ntmps73
  go_wp2_with fail
  refine H1.out.mono ?_
  rintro e w1 ⟨rfl, hb1⟩
  clear H1
  go_wp2_with fail
  go_loopw [7] (fun i wr => ∃ k : Nat, k ≤ 36 ∧ i = .int .i64 (k : Int) ∧ Hid (∀ j, j < k → (opO j).name ≠ s) ∧ Below w.heap.size w wr) (fun i _ => 36 - (intOf i).toNat)
  case atStart => exact ⟨0, by omega, rfl, fun j hj => absurd hj (by omega), hb1⟩
  case round =>
    clear hb1
    obtain ⟨k, hk, rfl, HK, hb⟩ := hrel
    by_cases hlt : k < 36
    · have e1 : decide ((k : Int) < 36) = true := by simp; omega
      have e1' : decide (k < 36) = true := by simp; omega
      have hix := HI.out k hlt
      unfold aggO at hix
      have HS : Hid ((opO k).name = s → findL s = some k) := fun h => findL_hit hlt HK.out h
      have HG : Hid ((opO k).name ≠ s → ∀ j, j < k + 1 → (opO j).name ≠ s) := fun h j hj => by
        rcases Nat.lt_or_ge j k with h1 | h1
        · exact HK.out j h1
        · obtain rfl : j = k := by omega
          exact h
      obtain ⟨x, hxe⟩ : ∃ x, x = opO k := ⟨_, rfl⟩
      rw [← hxe] at hix HS HG
      clear hxe HK
      have hb4 := balloc hb (.cells #[.string (strB x.name), .string (strB x.pops), .string (strB x.pushes), .int .u64 (x.limit : Int), .bool x.arg] 82)
      have hd := strB_beq x.name s
      by_cases he : x.name = s
      · rw [decide_eq_true he] at hd
        have HS' := Lib.hid (HS.out he)
        have hr1 : Hid (fn = (k : Int) ∧ fb = true) := by
          refine ⟨?_, ?_⟩
          · rw [HF.out.1]; unfold findN; rw [HS'.out]
          · rw [HF.out.2, HS'.out]; rfl
        clear HS HG he
        go_wp2_with fail
        go_ret2
        exact ⟨by rw [hr1.out.1, hr1.out.2]; rfl, hb4⟩
      · rw [decide_eq_false he] at hd
        have HG' := Lib.hid (HG.out he)
        clear HS HG he
        go_wp2_with fail
        go_roundw
        case rel => exact ⟨k + 1, by omega, by go_num, HG'.out, hb4⟩
        case measure => simp [intOf]; omega
    · have e1 : decide ((k : Int) < 36) = false := by simp; omega
      have e1' : decide (k < 36) = false := by simp; omega
      have hm := Lib.hid (findL_miss (s := s) (fun j hj => HK.out j (by omega)))
      have hr1 : Hid (fn = 0 ∧ fb = false) := by
        refine ⟨?_, ?_⟩
        · rw [HF.out.1]; unfold findN; rw [hm.out]
        · rw [HF.out.2, hm.out]; rfl
      go_wp2_with fail
      go_ret2
      exact ⟨by rw [hr1.out.1, hr1.out.2]; rfl, hb⟩
end Go.Proofs.YtlbhggjkcfcobaaDoor
