/- Contracts of leaves: SameInts, Begins, common, comparisons. -/
import Derived.Test.YtkndcbnajkiceaaProg
import Derived.Test.YtkndcbnajkiceaaKit
import Derived.WalkLawsBesides
namespace Go.Proofs.Ytkndcbnajkiceaa
open Go.RowKit Go.Proofs
set_option linter.unusedVariables false

theorem tB : Try.prog.underlying 22 = some (.slice (Try.prog.elem 22)) := by kernel_rfl
theorem eB : Try.prog.elem 22 = 5 := by kernel_rfl
theorem sB : ∀ W : World, (sizeOf 5).run Try.prog W = .ok 1 W := fun _ => by kernel_rfl
theorem uB : Try.prog.underlying 22 = some (.slice 5) := by kernel_rfl
theorem u8 : Try.prog.underlying 5 = some (.int .u8) := by kernel_rfl
theorem uS : Try.prog.underlying 9 = some .string := by kernel_rfl
theorem tI : Try.prog.underlying 24 = some (.slice (Try.prog.elem 24)) := by kernel_rfl
theorem eI : Try.prog.elem 24 = 3 := by kernel_rfl
theorem sI : ∀ W : World, (sizeOf 3).run Try.prog W = .ok 1 W := fun _ => by kernel_rfl

theorem gi_ext {xs ys : List Int} (hl : xs.length = ys.length) (h : ∀ i, i < xs.length → gi xs i = gi ys i) : xs = ys := by
  apply List.ext_getElem hl
  intro i h1 h2
  have := h i h1
  simpa [gi, List.getD, h1, h2] using this

set_option maxHeartbeats 400000 in
theorem sameInts_any (A B : Option Addr) (c d n m : Nat) (xs ys : List Int) (w : World) (hx : Ints w A n c xs) (hy : Ints w B m d ys) (hn : n ≤ 1000000000) (hm : m ≤ 1000000000) :
    Calls Try.prog 29 #[.slice A n c, .slice B m d] w fun e w' => e = .returned (.bool (decide (xs = ys))) ∧ ∃ q, w' = w.drewN q := by
  obtain ⟨hxl, -, hxc⟩ := hx
  obtain ⟨hyl, -, hyc⟩ := hy
  by_cases hl : n = m
  · subst hl
    have hne : ((n : Int) != (n : Int)) = false := by simp
    have Hx := Lib.hid hxl; clear hxl
    have Hy := Lib.hid hyl; clear hyl
    go_enter Try.func29, Try.ntmps29
    go_wp2
    go_loopw [5] (fun i wr => ∃ k : Nat, k ≤ n ∧ i = .int .i64 k ∧ Hid (∀ j, j < k → gi xs j = gi ys j) ∧ ∃ q, wr = w.drewN q) (fun i _ => n - (intOf i).toNat)
    case atStart => exact ⟨0, Nat.zero_le _, rfl, fun j hj => absurd hj (by omega), 0, rfl⟩
    case round =>
      obtain ⟨k, hk, rfl, HK, q, rfl⟩ := hrel
      by_cases hlt : k < n
      · obtain ⟨b, off, rfl, hb, hc⟩ := hxc.get hlt
        obtain ⟨b', off', rfl, hb', hc'⟩ := hyc.get hlt
        have h1 := hc k hlt
        have h2 := hc' k hlt
        clear hc hc' hxc hyc
        by_cases he : gi xs k = gi ys k
        · have hd : (gi xs k != gi ys k) = false := by simp [he]
          have He := Lib.hid he
          clear he
          go_wp2
          go_quiet (fail)
          go_wp2
          go_roundw
          case rel => exact ⟨k + 1, by omega, by go_num, fun j hj => by
            rcases Nat.lt_succ_iff_lt_or_eq.1 hj with h | h
            · exact HK.out j h
            · subst h; exact He.out, _, rfl⟩
          case measure => simp [intOf]; omega
        · have hd : (gi xs k != gi ys k) = true := by simp [he]
          go_wp2
          go_quiet (fail)
          go_wp2
          go_ret
          exact ⟨ret_bool (by symm; apply decide_eq_false; intro h; exact he (by rw [h])), _, World.drewN_drewN ..⟩
      · go_wp2
        go_ret
        exact ⟨ret_bool (by symm; apply decide_eq_true; exact gi_ext (Hx.out.trans Hy.out.symm) (fun i hi => HK.out i (by have := Hx.out; omega))), _, rfl⟩
  · have hne : ((n : Int) != (m : Int)) = true := by simp; omega
    have hxy : Hid (decide (xs = ys) = false) := by apply decide_eq_false; intro h; apply hl; rw [← hxl, ← hyl, h]
    clear hxl hyl
    go_enter Try.func29, Try.ntmps29
    go_wp2
    go_ret
    exact ⟨ret_bool hxy.out.symm, 0, rfl⟩

set_option maxHeartbeats 400000 in
theorem begins_any (A B : Option Addr) (c d n m : Nat) (xs ys : List UInt8) (w : World) (hx : Bytes w A n c xs) (hy : Bytes w B m d ys) (hn : n ≤ 1000000000) (hm : m ≤ 1000000000) :
    Calls Try.prog 39 #[.slice A n c, .slice B m d] w fun e w' => e = .returned (.bool (decide (xs.take ys.length = ys))) ∧ ∃ q, w' = w.drewN q := by
  have hl := hy.1
  by_cases h : m ≤ n
  · have h' : decide ((m : Int) ≤ (n : Int)) = true := by simp; omega
    obtain ⟨r1, hx1⟩ := hx.cut_h tB eB sB (m : Int) (by omega) (by omega)
    have r2 := fun q => (hx1.drewN q).str 22 5 9 uB u8 uS
    have r3 := fun q => (hy.drewN q).str 22 5 9 uB u8 uS
    rw [Int.toNat_natCast] at r2
    have hfin : Hid (((strB (xs.take m)).toList == (strB ys).toList) = decide (xs.take ys.length = ys)) := by rw [hl]; exact strB_beq _ _
    clear hl
    go_enter Try.func39, Try.ntmps39
    go_wp2
    go_quiet (fail)
    go_wp2
    go_ret
    exact ⟨ret_bool hfin.out, _, rfl⟩
  · have h' : decide ((m : Int) ≤ (n : Int)) = false := by simp; omega
    have hfin : Hid (decide (xs.take ys.length = ys) = false) := by
      apply decide_eq_false
      intro h
      have h1 := congrArg List.length h
      have h2 := hx.1
      simp at h1
      omega
    clear hl
    go_enter Try.func39, Try.ntmps39
    go_wp2
    go_quiet (fail)
    go_wp2
    go_ret
    exact ⟨ret_bool hfin.out.symm, _, rfl⟩

end Go.Proofs.Ytkndcbnajkiceaa
