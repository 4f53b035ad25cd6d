/- Walk of the law AssemblerStops. -/
import Derived.Test.YtlbhggjkcfcobaaDoorGl
namespace Go.Proofs.YtlbhggjkcfcobaaDoor
open Go.RowKit Go.Proofs
set_option linter.unusedVariables false

def RetB (w : World) (b : Bool) (e : Ending) (w' : World) : Prop := e = .returned (.bool b) ∧ Below w.heap.size w w'
theorem run_cutS_h (x : List UInt8) {j : Nat} (hj : j ≤ x.length) (W : World) : (Instr.slice 9 (.string (strB x)) none (some (.int .i64 (j : Int))) none).run Tryd.prog W = .ok (.string (strB (x.take j))) W := by
  rw [run_slice_string_h W 9 (strB x) uS .i64 (j : Int) (by omega) (by rw [strB_size']; omega), strB_extract, Int.toNat_natCast]
  simp
/-- what Assemble returns: a program, a place, an error. -/
theorem asmE_any (src : List UInt8) (w : World) (hs : src.length ≤ 100000000) (hE : ErrR w) : Calls Tryd.prog 12 #[.string (strB src)] w fun e w' => ∃ A n c L A' n' c', e = .returned (.tuple #[.agg #[.slice A n c, .int .i64 L, .slice A' n' c'], .int .i64 (match readL src with | .bad a _ => (a : Int) | .ok _ _ => 0), .int .i64 (match readL src with | .bad _ er => er | .ok _ _ => 0)]) ∧ Below w.heap.size w w' := by
  refine (assemble_any src w hs hE).mono ?_
  cases readL src with
  | bad a er =>
    rintro e w' ⟨rfl, hb⟩
    exact ⟨_, _, _, _, _, _, _, rfl, hb⟩
  | ok s r =>
    rintro e w' ⟨A, n, c, A', n', c', rfl, hp, hb⟩
    exact ⟨_, _, _, _, _, _, _, rfl, hb⟩

set_option maxRecDepth 100000 in
set_option maxHeartbeats 4000000 in
theorem stops_any (src : List UInt8) (w : World) (hl : src.length < 9223372036854775808) (hE : ErrR w) : Calls Tryd.prog 6 #[.string (strB src)] w (RetB w true) := by
  have HE := Lib.hid hE
  clear hE
  by_cases h1 : 1000 < src.length
  · have d1 : decide ((1000 : Int) < (src.length : Int)) = true := by simp; omega
    have d1' : decide (1000 < src.length) = true := by simp; omega
    have hsz : (strB src).size = src.length := strB_size' src
    go_enter Tryd.func6, Tryd.ntmps6
    go_wp2_with fail
    refine (awake_any w HE.out).mono ?_
    rintro e w1 ⟨rfl, hb1⟩
    go_wp2_with fail
    go_ret
    exact ⟨rfl, hb1⟩
  · have d1 : decide ((1000 : Int) < (src.length : Int)) = false := by simp; omega
    have d1' : decide (1000 < src.length) = false := by simp; omega
    have hsz : (strB src).size = src.length := strB_size' src
    have HR := asmE_any src w (by omega) HE.out
    cases hr : readL src with
    | ok s r =>
      rw [hr] at HR
      dsimp only at HR
      have HR' := Lib.hid HR
      clear HR hr
      go_enter Tryd.func6, Tryd.ntmps6
      go_wp2_with fail
      refine HR'.out.mono ?_
      rintro e w1 ⟨A, n, c, L, A', n', c', rfl, hb1⟩
      have d2 : decide ((src.length : Int) < 0) = false := by simp
      have d2' : decide (src.length < 0) = false := by simp
      have b2 := balloc hb1 (.cells #[.slice A n c, .int .i64 L, .slice A' n' c'] 27)
      have H2 := Lib.hid b2
      have H3 := Lib.hid (awake_any _ (HE.out.below b2))
      clear b2 hb1 HR'
      go_wp2_with fail
      refine H3.out.mono ?_
      rintro e w2 ⟨rfl, hb2⟩
      have H4 := Lib.hid (H2.out.trans (hb2.mono H2.out.size))
      clear H2 H3 hb2
      go_wp2_with fail
      go_ret
      exact ⟨rfl, H4.out⟩
    | bad a er =>
      have hne := readL_ne hr
      obtain ⟨hal, hst⟩ := readL_stop (by omega) hr
      rw [hr] at HR
      dsimp only at HR
      have HR' := Lib.hid HR
      have HT := Lib.hid (fun W h => asmE_any (src.take a) W (by rw [List.length_take]; omega) h)
      have HS : Hid (∃ k f : Nat, (match readL (src.take a) with | .bad b _ => (b : Int) | .ok _ _ => 0) = (k : Int) ∧ (match readL (src.take a) with | .bad _ x => x | .ok _ _ => 0) = (f : Int) ∧ ((k = 0 ∧ f = 0) ∨ (k = a ∧ f = 4))) := by
        rcases hst with ⟨s', r', h⟩ | h
        · exact ⟨0, 0, by rw [h]; rfl, by rw [h]; rfl, Or.inl ⟨rfl, rfl⟩⟩
        · exact ⟨a, 4, by rw [h], by rw [h]; rfl, Or.inr ⟨rfl, rfl⟩⟩
      have HA := Lib.hid hal
      have dne : (er == 0) = false := by simpa using hne
      have hcut := Lib.hid (run_cutS_h src hal)
      have e1 : decide ((a : Int) < 0) = false := by simp
      have e1' : decide (a < 0) = false := by simp
      have e2 : decide ((src.length : Int) < (a : Int)) = false := by simp; omega
      have e2' : decide (src.length < a) = false := by simp; omega
      clear HR hr hst hne hal
      go_enter Tryd.func6, Tryd.ntmps6
      go_wp2_with fail
      refine HR'.out.mono ?_
      rintro e w1 ⟨A, n, c, L, A', n', c', rfl, hb1⟩
      have b2 := balloc hb1 (.cells #[.slice A n c, .int .i64 L, .slice A' n' c'] 27)
      obtain ⟨k, f, hk, hf, hkf⟩ := HS.out
      have H3 := Lib.hid (HT.out _ (HE.out.below b2))
      rw [hk, hf] at H3
      have H2 := Lib.hid b2
      have HKF := Lib.hid hkf
      have hcut := hcut.out
      clear b2 hb1 HR' HT HS hk hf hkf
      go_wp2_with fail
      refine H3.out.mono ?_
      rintro e w2 ⟨B, m, d, M, B', m', d', rfl, hb2⟩
      have b3 := H2.out.trans (hb2.mono H2.out.size)
      have b4 := balloc b3 (.cells #[.slice B m d, .int .i64 M, .slice B' m' d'] 27)
      have H5 := Lib.hid (awake_any _ (HE.out.below b4))
      have H6 := Lib.hid b4
      clear b3 b4 hb2 H2 H3 hcut
      go_wp2_with fail
      refine H5.out.mono ?_
      rintro e w3 ⟨rfl, hb3⟩
      have H7 := Lib.hid (H6.out.trans (hb3.mono H6.out.size))
      clear H5 H6 hb3
      rcases HKF.out with ⟨rfl, rfl⟩ | ⟨rfl, rfl⟩
      · clear HKF
        go_wp2_with fail
        go_ret
        exact ⟨rfl, H7.out⟩
      · clear HKF
        go_wp2_with fail
        go_ret
        exact ⟨rfl, H7.out⟩
end Go.Proofs.YtlbhggjkcfcobaaDoor
