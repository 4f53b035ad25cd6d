/- A kind by its name: slices.IndexFunc over shapes(). -/
import Derived.Test.YtckkmafppfcecaaGreatDoorYf
namespace Go.Proofs.YtckkmafppfcecaaGreatDoor
open Go.RowKit Go.Proofs
set_option linter.unusedVariables false
set_option linter.unusedSimpArgs false

set_option maxRecDepth 100000 in
theorem named_any (nm x : List UInt8) (a b : Int) (g g' : Nat) (lb lb' : Array Value) (gw : Nat) (w : World) (hx : w.cell? ⟨gw, 0, none⟩ = some (.string (strB x))) :
    Calls Tryz.prog 39 #[.agg #[.string (strB nm), .int .i64 a, .int .i64 b, .func (.func g) #[] lb, .func (.func g') #[] lb'], .pointer (some ⟨gw, 0, none⟩)] w fun e w' => e = .returned (.bool (decide (nm = x))) ∧ Below w.heap.size w w' := by
  have hlt : gw < w.heap.size := World.block_lt_of_cell? w _ hx
  have hb := Lib.hid (balloc (Below.refl w.heap.size w) (.cells #[.string (strB nm), .int .i64 a, .int .i64 b, .func (.func g) #[] lb, .func (.func g') #[] lb'] 62))
  have hq : Hid (((strB nm).toList == (strB x).toList) = decide (nm = x)) := strB_beq _ _
  go_enter Tryz.func39, Tryz.ntmps39
  go_wp2_with fail
  rw [hq.out]
  go_ret
  exact ⟨rfl, hb.out⟩

set_option maxRecDepth 100000 in
set_option maxHeartbeats 1000000 in
theorem indexShape_any (x : List UInt8) (f : Nat → Value) (hf : IsCl f) (gk gw : Nat) (w : World) (hk : rowV w gk 63 (shV f)) (hx : w.cell? ⟨gw, 0, none⟩ = some (.string (strB x))) :
    Calls Tryz.prog 38 #[.slice (some ⟨gk, 0, none⟩) 10 10, .func (.func 39) #[] #[.pointer (some ⟨gw, 0, none⟩)]] w fun e w' => e = .returned (.int .i64 (kindP x)) ∧ Below w.heap.size w w' := by
  have hlt : gw < w.heap.size := World.block_lt_of_cell? w _ hx
  have HK := Lib.hid hk
  have HX := Lib.hid hx
  have HF := Lib.hid hf
  clear hk hx hf
  go_enter Tryz.func38, Tryz.ntmps38
  go_wp2_with fail
  go_loopw [5, 8] (fun _ i wr => ∃ k : Nat, k ≤ 10 ∧ i = .int .i64 (k : Int) ∧ Hid (∀ j, j < k → nameP ((j : Nat) : Int) ≠ x) ∧ Hid (Below w.heap.size w wr)) (fun _ i _ => 10 - (intOf i).toNat)
  case atStart => exact ⟨0, Nat.zero_le _, rfl, Lib.hid (fun j hj => absurd hj (Nat.not_lt_zero _)), Lib.hid (Below.refl _ _)⟩
  case round =>
    obtain ⟨k, hk, rfl, HA, HB⟩ := hrel
    by_cases hlt2 : k < 10
    · have d0 : decide ((k : Int) < 10) = true := by simp; omega
      have d0' : decide (k < 10) = true := by simp; omega
      obtain ⟨ug, vg, ul, vl, q0, q1, q2, q3, q4⟩ := shV_at HF.out hlt2
      have rr := HK.out.below HB.out HK.out.lt
      have k0 := rr.cell q0
      have k1 := rr.cell q1
      have k2 := rr.cell q2
      have k3 := rr.cell q3
      have k4 := rr.cell q4
      clear q0 q1 q2 q3 q4 rr
      have HC := Lib.hid (named_any (nameP k) x (frK k) (toK k) ug vg ul vl gw wr ((HB.out.cell (p := ⟨gw, 0, none⟩) hlt).trans HX.out))
      obtain ⟨nm, hnm⟩ : ∃ nm, nm = nameP (k : Int) := ⟨_, rfl⟩
      rw [← hnm] at k0 HC
      have HN := Lib.hid hnm
      clear hnm
      by_cases he : nm = x
      · rw [decide_eq_true he] at HC
        have hkx : kindP x = (k : Int) := kind_hit hlt2 (by rw [← HN.out]; exact he) HA.out
        have HKX := Lib.hid hkx
        clear he hkx
        go_wp2_with fail
        refine HC.out.mono ?_
        rintro e w2 ⟨rfl, hb2⟩
        go_wp2_with fail
        rw [HKX.out]
        go_ret
        exact ⟨rfl, HB.out.trans (hb2.mono HB.out.size)⟩
      · rw [decide_eq_false he] at HC
        have HE := Lib.hid he
        clear he
        go_wp2_with fail
        refine HC.out.mono ?_
        rintro e w2 ⟨rfl, hb2⟩
        have HB2 := Lib.hid (HB.out.trans (hb2.mono HB.out.size))
        clear hb2
        go_wp2_with fail
        go_roundw
        case rel =>
          refine ⟨k + 1, by omega, by go_num, Lib.hid (fun j hj => ?_), HB2⟩
          by_cases e : j = k
          · subst e; rw [← HN.out]; exact HE.out
          · exact HA.out j (by omega)
        case measure => (simp [intOf]) <;> omega
    · obtain rfl : k = 10 := by omega
      have HKX := Lib.hid (kind_miss HA.out)
      go_wp2_with fail
      rw [HKX.out]
      go_ret
      exact ⟨rfl, HB.out⟩
end Go.Proofs.YtckkmafppfcecaaGreatDoor
