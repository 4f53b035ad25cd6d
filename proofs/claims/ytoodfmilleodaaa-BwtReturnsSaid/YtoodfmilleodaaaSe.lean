/- slices.Sort at []byte, part 4: partialInsertionSortOrdered. slices.Sort at []byte, part 5: order2Ordered, medianOrdered, medianAdjacentOrdered, choosePivotOrdered: where the pivot lies, and what is kept. -/
import Derived.Test.YtoodfmilleodaaaSc
import Derived.Sort.WalkA6
import Derived.Test.YtoodfmilleodaaaSb
namespace Go.Proofs.Ytoodfmilleodaaa
open Go.RowKit Go.Proofs Go.Sort
set_option linter.unusedVariables false
set_option linter.unusedSimpArgs false

theorem size_shiftDown (lt : UInt8 → UInt8 → Bool) : ∀ (j : Nat) (d : Array UInt8), (shiftDown lt j d).size = d.size
  | 0, d => by rw [shiftDown]
  | j + 1, d => by
    rw [shiftDown]
    split
    · rfl
    · rw [size_shiftDown lt j, size_swp]
theorem size_shiftUp (lt : UInt8 → UInt8 → Bool) (b : Nat) : ∀ (n j : Nat) (d : Array UInt8), b - j ≤ n → (shiftUp lt b j d).size = d.size := by
  intro n
  induction n with
  | zero => intro j d h; rw [shiftUp, if_neg (by omega)]
  | succ n ih =>
    intro j d h
    rw [shiftUp]
    split
    · split
      · rfl
      · rw [ih _ _ (by omega), size_swp]
    · rfl
theorem size_fixDown (lt : UInt8 → UInt8 → Bool) (a k : Nat) (d : Array UInt8) : (fixDown lt a k d).size = d.size := by
  unfold fixDown; split
  · exact size_shiftDown lt _ _
  · rfl
theorem size_fixUp (lt : UInt8 → UInt8 → Bool) (b k : Nat) (d : Array UInt8) : (fixUp lt b k d).size = d.size := by
  unfold fixUp; split
  · exact size_shiftUp lt b _ _ _ (Nat.le_refl _)
  · rfl

set_option maxHeartbeats 12800000 in
set_option maxRecDepth 100000 in
theorem partialInsertion_any (blk off cap a b : Nat) (d : Array UInt8) (w : World) (hA : Arr w w blk off d) (hab : a < b) (hb : b ≤ d.size) (hsz : d.size < 4611686018427387904) :
    Calls Try.prog 93 #[.slice (some ⟨blk, off, none⟩) d.size cap, .int .i64 a, .int .i64 b] w fun e w' => e = .returned (.bool (partialInsertionSort ltU d a b).2) ∧ Arr w w' blk off (partialInsertionSort ltU d a b).1 := by
  have HA0 := Lib.hid hA
  clear hA
  obtain ⟨R, hR⟩ : ∃ R, R = partialInsertionSort ltU d a b := ⟨_, rfl⟩
  rw [← hR]
  have HR : Hid (partialIns ltU a b 5 (a + 1) d = R) := by show _ = _; rw [hR]; rfl
  clear hR
  go_enter Try.func93, Try.ntmps93
  go_wp2
  go_loopw [7, 8] (fun s7 s8 wr => ∃ (i s : Nat) (dk : Array UInt8), s7 = .int .i64 i ∧ s8 = .int .i64 s ∧ s ≤ 5 ∧ a < i ∧ i ≤ b ∧ dk.size = d.size ∧ Arr w wr blk off dk ∧ partialIns ltU a b (5 - s) i dk = R) (fun _ s8 _ => 5 - (intOf s8).toNat)
  case atStart => exact ⟨a + 1, 0, d, by go_num, rfl, by omega, by omega, by omega, rfl, HA0.out, HR.out⟩
  case round =>
    clear HA0 HR
    obtain ⟨i, s, dk, rfl, rfl, hs5, hai, hib, hds, hAk, hO⟩ := hrel
    have HO := Lib.hid hO
    have HS := Lib.hid hds
    have HA1 := Lib.hid hAk
    clear hO hds hAk
    by_cases hs : s < 5
    · have hsz : (s : Int) < 5 := by omega
      go_upto_block 2 with fail
      go_cut [7] (fun s wx => ∃ k : Nat, s = .int .i64 (k : Int) ∧ i ≤ k ∧ k ≤ b ∧ scanSorted ltU dk b i = k ∧ Arr w wx blk off dk)
      case first =>
        go_wp2_with fail
        go_loopw [7] (fun s wx => ∃ k : Nat, s = .int .i64 (k : Int) ∧ i ≤ k ∧ k ≤ b ∧ scanSorted ltU dk b i = scanSorted ltU dk b k ∧ Arr w wx blk off dk) (fun s _ => b - (intOf s).toNat)
        case atStart => exact ⟨i, rfl, Nat.le_refl _, hib, rfl, HA1.out⟩
        case round =>
          obtain ⟨k, rfl, h1, h2, h3, hAk⟩ := hrel
          have HK := Lib.hid hAk
          have HU := Lib.hid h3
          clear hAk h3
          by_cases hg : k < b
          · have hgz : (k : Int) < (b : Int) := by omega
            have ca := HK.out.cell (t := k) (by have := HS.out; omega)
            have ck := HK.out.cell (t := k - 1) (by have := HS.out; omega)
            go_wp2_with fail
            go_quiet (first | (go_at_call 94; refine Calls.quiet_of_same (lessZ_any _ _ _)))
            go_wp2_with fail
            · have hb : ltZ (gA dk k) (gA dk (k - 1)) = false := by
                have : (!ltZ (gA dk k) (gA dk (k - 1))) = true := by assumption
                simpa using this
              rw [← ltZ_at] at hb
              go_roundw
              case rel => exact ⟨k + 1, by go_num, by omega, by omega, by rw [HU.out, scanSorted_go ltU dk b k hg hb], HK.out.drewN _⟩
              case measure => (simp [intOf]) <;> omega
            · have hb : ltZ (gA dk k) (gA dk (k - 1)) = true := by
                have : (!ltZ (gA dk k) (gA dk (k - 1))) = false := by assumption
                simpa using this
              rw [← ltZ_at] at hb
              go_meet
              exact ⟨k, rfl, h1, h2, by rw [HU.out, scanSorted_stop ltU dk b k (Or.inr hb)], HK.out.drewN _⟩
          · have hgz : decide ((k : Int) < (b : Int)) = false := decide_eq_false (by omega)
            go_wp2_with fail
            go_quiet (first | (go_at_call 94; refine Calls.quiet_of_same (lessZ_any _ _ _)))
            go_wp2_with fail
            go_meet
            exact ⟨k, rfl, h1, h2, by rw [HU.out, scanSorted_stop ltU dk b k (Or.inl hg)], HK.out.drewN _⟩
      case rest =>
        obtain ⟨k, rfl, hk1, hk2, hfn, hA2⟩ := hcut
        have HK := Lib.hid hfn
        have HA2 := Lib.hid hA2
        clear hfn hA2 HA1
        by_cases hkb : k = b
        · have e := pi_true ltU a b s i dk hs (by rw [HK.out, hkb])
          have HE : Hid (R = (dk, true)) := by show _ = _; rw [← HO.out, e]
          subst hkb
          clear e
          go_wp2_with fail
          go_ret
          rw [HE.out]
          exact ⟨rfl, HA2.out⟩
        · have hkb' : k < b := by omega
          have HKB := Lib.hid hkb
          have hkz : ((k : Int) == (b : Int)) = false := by simp; omega
          clear hkb
          by_cases h50 : b - a < 50
          · have h50z : (b : Int) - (a : Int) < 50 := by omega
            have e := pi_short ltU a b s i dk hs (by rw [HK.out]; exact HKB.out) h50
            have HE : Hid (R = (dk, false)) := by show _ = _; rw [← HO.out, e]
            clear e
            go_wp2_with fail
            go_ret
            rw [HE.out]
            exact ⟨rfl, HA2.out⟩
          · have h50z : ¬ ((b : Int) - (a : Int) < 50) := by omega
            have e := pi_go ltU a b s i k dk hs HK.out HKB.out h50
            have HE : Hid (partialIns ltU a b (5 - (s + 1)) k (fixUp ltU b k (fixDown ltU a k (swp dk k (k - 1)))) = R) := by show _ = _; rw [← HO.out, e]
            clear e
            go_upto_region 11 with fail
            go_cut [] (fun wx => Arr w wx blk off (swp dk k (k - 1)))
            case first =>
              have c1 := HA2.out.cell (t := k) (by have := HS.out; omega)
              have c2 := HA2.out.cell (t := k - 1) (by have := HS.out; omega)
              have f1 := HA2.out.frozen (t := k) (by have := HS.out; omega)
              have f2 := HA2.out.frozen (t := k - 1) (by have := HS.out; omega)
              go_region
              all_goals
                go_wp2_with fail
                go_meet
                exact (HA2.out.swp (by have := HS.out; omega) (by have := HS.out; omega)).drewN 1
            case rest =>
              obtain ⟨d1, hd1⟩ : ∃ d1, d1 = swp dk k (k - 1) := ⟨_, rfl⟩
              rw [← hd1] at hcut HE
              have HSK : Hid (d1.size = d.size) := by show _ = _; rw [hd1, size_swp]; exact HS.out
              have HA3 := Lib.hid hcut
              clear hcut hd1 HA2
              go_upto_if 61 with fail
              go_cut [] (fun wx => Arr w wx blk off (fixDown ltU a k d1))
              case first =>
                by_cases h2 : k - a ≥ 2
                · have h2z : (2 : Int) ≤ (k : Int) - (a : Int) := by omega
                  have e : fixDown ltU a k d1 = shiftDown ltU (k - 1) d1 := by unfold fixDown; rw [if_pos h2]
                  have HF := Lib.hid e
                  clear e
                  go_wp2_with fail
                  go_loopw [9] (fun s wx => ∃ (j : Nat) (dx : Array UInt8), s = .int .i64 (j : Int) ∧ j ≤ k - 1 ∧ dx.size = d.size ∧ Arr w wx blk off dx ∧ shiftDown ltU j dx = shiftDown ltU (k - 1) d1) (fun s _ => (intOf s).toNat)
                  case atStart => exact ⟨k - 1, d1, by first | rfl | (congr 1; omega), Nat.le_refl _, HSK.out, HA3.out, rfl⟩
                  case round =>
                    obtain ⟨j, dx, rfl, hj1, hsx, hAx, hU⟩ := hrel
                    have HX := Lib.hid hAx
                    have HSX := Lib.hid hsx
                    have HU := Lib.hid hU
                    clear hAx hsx hU
                    by_cases hc : 1 ≤ j
                    · have hcz : (1 : Int) ≤ (j : Int) := by omega
                      have c1 := HX.out.cell (t := j) (by have := HSX.out; omega)
                      have c2 := HX.out.cell (t := j - 1) (by have := HSX.out; omega)
                      have f1 := HX.out.frozen (t := j) (by have := HSX.out; omega)
                      have f2 := HX.out.frozen (t := j - 1) (by have := HSX.out; omega)
                      go_wp2_with fail
                      go_quiet (first | (go_at_call 94; refine Calls.quiet_of_same (lessZ_any _ _ _)))
                      go_wp2_with fail
                      · have hb : ltZ (gA dx j) (gA dx (j - 1)) = false := by
                          have : (!ltZ (gA dx j) (gA dx (j - 1))) = true := by assumption
                          simpa using this
                        rw [← ltZ_at] at hb
                        go_meet
                        rw [HF.out, ← HU.out, shiftDown_stop ltU j dx (Or.inr hb)]
                        exact HX.out.drewN _
                      · have hb : ltZ (gA dx j) (gA dx (j - 1)) = true := by
                          have : (!ltZ (gA dx j) (gA dx (j - 1))) = false := by assumption
                          simpa using this
                        rw [← ltZ_at] at hb
                        have HB := Lib.hid hb
                        clear hb
                        go_region
                        all_goals
                          go_wp2_with fail
                          go_roundw
                          case rel => exact ⟨j - 1, swp dx j (j - 1), by first | rfl | (congr 1; omega), by omega, by rw [size_swp]; exact HSX.out, (HX.out.drewN _).swp (by have := HSX.out; omega) (by have := HSX.out; omega), by rw [← HU.out, shiftDown_go ltU j dx hc HB.out]⟩
                          case measure => (simp [intOf]) <;> omega
                    · have hcz : ¬ ((1 : Int) ≤ (j : Int)) := by omega
                      go_wp2_with fail
                      go_meet
                      rw [HF.out, ← HU.out, shiftDown_stop ltU j dx (Or.inl (by omega))]
                      exact HX.out
                · have h2z : ¬ ((2 : Int) ≤ (k : Int) - (a : Int)) := by omega
                  have e : fixDown ltU a k d1 = d1 := by unfold fixDown; rw [if_neg h2]
                  have HF := Lib.hid e
                  clear e
                  go_wp2_with fail
                  go_meet
                  rw [HF.out]
                  exact HA3.out
              case rest =>
                obtain ⟨d2, hd2⟩ : ∃ d2, d2 = fixDown ltU a k d1 := ⟨_, rfl⟩
                rw [← hd2] at hcut HE
                have HSK2 : Hid (d2.size = d.size) := by show _ = _; rw [hd2, size_fixDown]; exact HSK.out
                clear HSK HA3
                have HSK := HSK2
                have HA4 := Lib.hid hcut
                clear hcut hd2 HSK2
                by_cases h2 : b - k ≥ 2
                · have h2z : (2 : Int) ≤ (b : Int) - (k : Int) := by omega
                  have e : fixUp ltU b k d2 = shiftUp ltU b (k + 1) d2 := by unfold fixUp; rw [if_pos h2]
                  have HF := Lib.hid e
                  clear e
                  go_wp2_with fail
                  go_loopw [10] (fun s wx => ∃ (j : Nat) (dx : Array UInt8), s = .int .i64 (j : Int) ∧ k + 1 ≤ j ∧ j ≤ b ∧ dx.size = d.size ∧ Arr w wx blk off dx ∧ shiftUp ltU b j dx = shiftUp ltU b (k + 1) d2) (fun s _ => b - (intOf s).toNat)
                  case atStart => exact ⟨k + 1, d2, by first | rfl | (congr 1; omega), by omega, by omega, HSK.out, HA4.out, rfl⟩
                  case round =>
                    obtain ⟨j, dx, rfl, hj1, hj2, hsx, hAx, hU⟩ := hrel
                    have HX := Lib.hid hAx
                    have HSX := Lib.hid hsx
                    have HU := Lib.hid hU
                    clear hAx hsx hU
                    by_cases hc : j < b
                    · have hcz : (j : Int) < (b : Int) := by omega
                      have c1 := HX.out.cell (t := j) (by have := HSX.out; omega)
                      have c2 := HX.out.cell (t := j - 1) (by have := HSX.out; omega)
                      have f1 := HX.out.frozen (t := j) (by have := HSX.out; omega)
                      have f2 := HX.out.frozen (t := j - 1) (by have := HSX.out; omega)
                      go_wp2_with fail
                      go_quiet (first | (go_at_call 94; refine Calls.quiet_of_same (lessZ_any _ _ _)))
                      go_wp2_with fail
                      · have hb : ltZ (gA dx j) (gA dx (j - 1)) = false := by
                          have : (!ltZ (gA dx j) (gA dx (j - 1))) = true := by assumption
                          simpa using this
                        rw [← ltZ_at] at hb
                        go_roundw
                        case rel => exact ⟨k, s + 1, _, rfl, by go_num, by omega, by omega, by omega, by rw [size_fixUp]; exact HSK.out, by rw [HF.out, ← HU.out, shiftUp_stop ltU b j dx (Or.inr hb)]; exact HX.out.drewN _, HE.out⟩
                        case measure => (simp [intOf]) <;> omega
                      · have hb : ltZ (gA dx j) (gA dx (j - 1)) = true := by
                          have : (!ltZ (gA dx j) (gA dx (j - 1))) = false := by assumption
                          simpa using this
                        rw [← ltZ_at] at hb
                        have HB := Lib.hid hb
                        clear hb
                        go_region
                        all_goals
                          go_wp2_with fail
                          go_roundw
                          case rel => exact ⟨j + 1, swp dx j (j - 1), by first | rfl | (congr 1; omega), by omega, by omega, by rw [size_swp]; exact HSX.out, (HX.out.drewN _).swp (by have := HSX.out; omega) (by have := HSX.out; omega), by rw [← HU.out, shiftUp_go ltU b j dx hc HB.out]⟩
                          case measure => (simp [intOf]) <;> omega
                    · have hcz : ¬ ((j : Int) < (b : Int)) := by omega
                      go_wp2_with fail
                      go_roundw
                      case rel => exact ⟨k, s + 1, _, rfl, by go_num, by omega, by omega, by omega, by rw [size_fixUp]; exact HSK.out, by rw [HF.out, ← HU.out, shiftUp_stop ltU b j dx (Or.inl (by omega))]; exact HX.out, HE.out⟩
                      case measure => (simp [intOf]) <;> omega
                · have h2z : ¬ ((2 : Int) ≤ (b : Int) - (k : Int)) := by omega
                  have e : fixUp ltU b k d2 = d2 := by unfold fixUp; rw [if_neg h2]
                  have HF := Lib.hid e
                  clear e
                  go_wp2_with fail
                  go_roundw
                  case rel => exact ⟨k, s + 1, _, rfl, by go_num, by omega, by omega, by omega, by rw [size_fixUp]; exact HSK.out, by rw [HF.out]; exact HA4.out, HE.out⟩
                  case measure => (simp [intOf]) <;> omega
    · obtain rfl : s = 5 := by omega
      have HE : Hid (R = (dk, false)) := by show _ = _; rw [← HO.out, pi_end]
      go_wp2_with fail
      go_ret
      rw [HE.out]
      exact ⟨rfl, HA1.out⟩
end Go.Proofs.Ytoodfmilleodaaa
namespace Go.Proofs.Ytoodfmilleodaaa
open Go.RowKit Go.Proofs Go.Sort
set_option linter.unusedVariables false
set_option linter.unusedSimpArgs false

section
variable {w w' : World} {blk off sb : Nat} {d : Array UInt8}
theorem Arr.other (h : Arr w w blk off d) (hg : w.grownBy w' (some sb)) (hne : sb ≠ blk) : Arr w' w' blk off d := by
  have hb := hg.block blk h.1.2 (by simpa using fun e => hne e.symm)
  refine ⟨⟨fun j hj => ?_, Nat.lt_of_lt_of_le h.1.2 hg.size⟩, World.grownBy.refl _ _⟩
  obtain ⟨h1, h2⟩ := h.1.1 j hj
  simp only [World.cell?, World.frozen?, hb] at h1 h2 ⊢
  exact ⟨h1, h2⟩
theorem grownBy.fresh {X Y : World} (hg : w.grownBy X none) (hb : w.heap.size ≤ sb) (h : X.grownBy Y (some sb)) : w.grownBy Y none :=
  ⟨h.os.trans hg.os, h.tape.trans hg.tape, h.output.trans hg.output, Nat.le_trans hg.size h.size, fun k hk _ => by
    rw [h.block k (Nat.lt_of_lt_of_le hk hg.size) (by intro e; cases e; omega)]
    exact hg.block k hk (by simp)⟩
end

set_option maxHeartbeats 1600000 in
theorem order2_any (blk off cap sb x y : Nat) (z : Int) (d : Array UInt8) (w : World) (hA : Arr w w blk off d) (hr : Row id w sb 3 [.int .i64 z]) (hx : x < d.size) (hy : y < d.size) (hsz : d.size < 4611686018427387904) :
    Calls Try.prog 116 #[.slice (some ⟨blk, off, none⟩) d.size cap, .int .i64 x, .int .i64 y, .pointer (some ⟨sb, 0, none⟩)] w fun e w' =>
      ∃ (p q : Nat) (z' : Int), e = .returned (.tuple #[.int .i64 p, .int .i64 q]) ∧ (p = x ∧ q = y ∨ p = y ∧ q = x) ∧ Row id w' sb 3 [.int .i64 z'] ∧ w.grownBy w' (some sb) := by
  have c1 := hA.cell hx
  have c2 := hA.cell hy
  have b0 := hr.one
  have f0 := hr.frozen 0
  go_enter Try.func116, Try.ntmps116
  go_wp2_with fail
  go_quiet (first | (go_at_call 94; refine Calls.quiet_of_same (lessZ_any _ _ _)))
  go_wp2_with fail
  · go_ret2
    exact ⟨y, x, _, rfl, Or.inr ⟨rfl, rfl⟩, (hr.drewN nq).set 0 _, grownBy.setCell' (grownBy.drewN' (World.grownBy.refl _ _) _) _⟩
  · go_ret2
    exact ⟨x, y, z, rfl, Or.inl ⟨rfl, rfl⟩, hr.drewN nq, grownBy.drewN' (World.grownBy.refl _ _) _⟩

set_option maxHeartbeats 1600000 in
theorem median_any (blk off cap sb x y u : Nat) (z : Int) (d : Array UInt8) (w : World) (hA : Arr w w blk off d) (hr : Row id w sb 3 [.int .i64 z]) (hne : sb ≠ blk) (hx : x < d.size) (hy : y < d.size) (hu : u < d.size) (hsz : d.size < 4611686018427387904) :
    Calls Try.prog 111 #[.slice (some ⟨blk, off, none⟩) d.size cap, .int .i64 x, .int .i64 y, .int .i64 u, .pointer (some ⟨sb, 0, none⟩)] w fun e w' =>
      ∃ (p : Nat) (z' : Int), e = .returned (.int .i64 p) ∧ (p = x ∨ p = y ∨ p = u) ∧ Row id w' sb 3 [.int .i64 z'] ∧ w.grownBy w' (some sb) := by
  go_enter Try.func111, Try.ntmps111
  go_wp2_with fail
  refine (order2_any blk off cap sb x y z d w hA hr hx hy hsz).mono ?_
  rintro e w1 ⟨p1, q1, z1, rfl, h1, r1, g1⟩
  have H1 := Lib.hid h1; clear h1
  have A1 := hA.other g1 hne
  have hp1 : p1 < d.size := by have := H1.out; omega
  have hq1 : q1 < d.size := by have := H1.out; omega
  go_wp2_with fail
  refine (order2_any blk off cap sb q1 u z1 d w1 A1 r1 hq1 hu hsz).mono ?_
  rintro e w2 ⟨p2, q2, z2, rfl, h2, r2, g2⟩
  have H2 := Lib.hid h2; clear h2
  have A2 := A1.other g2 hne
  have hp2 : p2 < d.size := by have := H2.out; omega
  go_wp2_with fail
  refine (order2_any blk off cap sb p1 p2 z2 d w2 A2 r2 hp1 hp2 hsz).mono ?_
  rintro e w3 ⟨p3, q3, z3, rfl, h3, r3, g3⟩
  have H3 := Lib.hid h3; clear h3
  go_wp2_with fail
  go_ret
  exact ⟨q3, z3, rfl, by have := H1.out; have := H2.out; have := H3.out; omega, r3, grownBy.trans' (grownBy.trans' g1 g2) g3⟩

set_option maxHeartbeats 1600000 in
theorem medianAdjacent_any (blk off cap sb x : Nat) (z : Int) (d : Array UInt8) (w : World) (hA : Arr w w blk off d) (hr : Row id w sb 3 [.int .i64 z]) (hne : sb ≠ blk) (h1 : 1 ≤ x) (hx : x + 1 < d.size) (hsz : d.size < 4611686018427387904) :
    Calls Try.prog 110 #[.slice (some ⟨blk, off, none⟩) d.size cap, .int .i64 x, .pointer (some ⟨sb, 0, none⟩)] w fun e w' =>
      ∃ (p : Nat) (z' : Int), e = .returned (.int .i64 p) ∧ x ≤ p + 1 ∧ p ≤ x + 1 ∧ Row id w' sb 3 [.int .i64 z'] ∧ w.grownBy w' (some sb) := by
  obtain ⟨l, hl⟩ : ∃ l, l = x - 1 := ⟨_, rfl⟩
  obtain ⟨r, hr0⟩ : ∃ r, r = x + 1 := ⟨_, rfl⟩
  have e1 : (x : Int) - 1 = (l : Int) := by omega
  have e2 : (x : Int) + 1 = (r : Int) := by omega
  have HB : Hid (l + 1 = x ∧ r = x + 1) := by show _ ∧ _; omega
  have hl1 : l < d.size := by omega
  have hr1 : r < d.size := by omega
  clear hl hr0
  go_enter Try.func110, Try.ntmps110
  go_wp2_with fail
  refine (median_any blk off cap sb l x r z d w hA hr hne hl1 (by omega) hr1 hsz).mono ?_
  rintro e w1 ⟨p, z1, rfl, h2, r1, g1⟩
  have H2 := Lib.hid h2; clear h2
  go_wp2_with fail
  go_ret
  exact ⟨p, z1, rfl, by have := H2.out; have := HB.out; omega, by have := H2.out; have := HB.out; omega, r1, g1⟩

set_option maxHeartbeats 3200000 in
theorem choosePivot_any (blk off cap a b : Nat) (d : Array UInt8) (w : World) (hA : Arr w w blk off d) (hab : a < b) (hb : b ≤ d.size) (hsz : d.size < 4611686018427387904) :
    Calls Try.prog 91 #[.slice (some ⟨blk, off, none⟩) d.size cap, .int .i64 a, .int .i64 b] w fun e w' =>
      ∃ p h : Nat, e = .returned (.tuple #[.int .i64 p, .int .i64 h]) ∧ a ≤ p ∧ p < b ∧ h ≤ 2 ∧ w.grownBy w' none := by
  obtain ⟨l, hl⟩ : ∃ l, l = b - a := ⟨_, rfl⟩
  obtain ⟨q, hq⟩ : ∃ q, q = l / 4 := ⟨_, rfl⟩
  obtain ⟨I, hI⟩ : ∃ I, I = a + q := ⟨_, rfl⟩
  obtain ⟨J, hJ⟩ : ∃ J, J = a + q * 2 := ⟨_, rfl⟩
  obtain ⟨K, hK⟩ : ∃ K, K = a + q * 3 := ⟨_, rfl⟩
  have e1 : (b : Int) - (a : Int) = (l : Int) := by omega
  have e2 : (l : Int) / 4 = (q : Int) := by omega
  have e2' : (l : Int).tdiv 4 = (q : Int) := by rw [Int.tdiv_eq_ediv_of_nonneg (by omega)]; exact e2
  have e3 : (a : Int) + (q : Int) = (I : Int) := by omega
  have e4 : (a : Int) + (q : Int) * 2 = (J : Int) := by omega
  have e5 : (a : Int) + (q : Int) * 3 = (K : Int) := by omega
  have HB : Hid (l = b - a ∧ q = l / 4 ∧ I = a + q ∧ J = a + q * 2 ∧ K = a + q * 3) := ⟨hl, hq, hI, hJ, hK⟩
  have hl62 : l < 4611686018427387904 := by omega
  have hq62 : q < 4611686018427387904 / 4 := by omega
  have hJb : J < b := by omega
  have haJ : a ≤ J := by omega
  have hrow : Row id (w.alloc (.cells #[.int .i64 0] 3)) w.heap.size 3 [.int .i64 0] := Row.one_new w 3 (.int .i64 0)
  have hne : w.heap.size ≠ blk := by have := hA.1.2; omega
  have hg0 : w.grownBy (w.alloc (.cells #[.int .i64 0] 3)) none := World.grownBy_alloc w _ none
  have hA0 : Arr (w.alloc (.cells #[.int .i64 0] 3)) (w.alloc (.cells #[.int .i64 0] 3)) blk off d := (hA.keep hg0).self
  have HW : Hid (∀ Y : World, (w.alloc (.cells #[.int .i64 0] 3)).grownBy Y (some w.heap.size) → w.grownBy Y none) := fun Y h => grownBy.fresh hg0 (Nat.le_refl _) h
  have HHR := Lib.hid hrow
  have HHA := Lib.hid hA0
  have HNE := Lib.hid hne
  have b0 := hrow.one
  clear hl hq hI hJ hK hrow hA0 hg0 hne hA
  by_cases h8 : 8 ≤ l
  · have h8z : (8 : Int) ≤ (l : Int) := by omega
    by_cases h50 : 50 ≤ l
    · have h50z : (50 : Int) ≤ (l : Int) := by omega
      have hI1 : 1 ≤ I := by have := HB.out; omega
      have hI2 : I + 1 < d.size := by have := HB.out; omega
      have hJ1 : 1 ≤ J := by have := HB.out; omega
      have hJ2 : J + 1 < d.size := by have := HB.out; omega
      have hK1 : 1 ≤ K := by have := HB.out; omega
      have hK2 : K + 1 < d.size := by have := HB.out; omega
      go_enter Try.func91, Try.ntmps91
      go_wp2_with fail
      refine (medianAdjacent_any blk off cap w.heap.size I 0 d _ HHA.out HHR.out HNE.out hI1 hI2 hsz).mono ?_
      rintro e w1 ⟨p1, z1, rfl, a1, a2, r1, g1⟩
      have A1 := HHA.out.other g1 HNE.out
      go_wp2_with fail
      refine (medianAdjacent_any blk off cap w.heap.size J z1 d _ A1 r1 HNE.out hJ1 hJ2 hsz).mono ?_
      rintro e w2 ⟨p2, z2, rfl, a3, a4, r2, g2⟩
      have A2 := A1.other g2 HNE.out
      go_wp2_with fail
      refine (medianAdjacent_any blk off cap w.heap.size K z2 d _ A2 r2 HNE.out hK1 hK2 hsz).mono ?_
      rintro e w3 ⟨p3, z3, rfl, a5, a6, r3, g3⟩
      have A3 := A2.other g3 HNE.out
      have P1 : a ≤ p1 ∧ p1 < b := by have := HB.out; omega
      have P2 : a ≤ p2 ∧ p2 < b := by have := HB.out; omega
      have P3 : a ≤ p3 ∧ p3 < b := by have := HB.out; omega
      go_wp2_with fail
      refine (median_any blk off cap w.heap.size p1 p2 p3 z3 d _ A3 r3 HNE.out (by omega) (by omega) (by omega) hsz).mono ?_
      rintro e w4 ⟨p, z, rfl, hp, r4, g4⟩
      have P4 : a ≤ p ∧ p < b := by omega
      have b4 := r4.one
      have G := Lib.hid (HW.out _ (grownBy.trans' (grownBy.trans' (grownBy.trans' g1 g2) g3) g4))
      clear hp r1 r2 r3 r4 g1 g2 g3 g4 A1 A2 A3
      go_wp2_with fail
      all_goals go_ret2
      · exact ⟨p, 1, rfl, P4.1, P4.2, by omega, G.out⟩
      · exact ⟨p, 2, rfl, P4.1, P4.2, by omega, G.out⟩
      · exact ⟨p, 0, rfl, P4.1, P4.2, by omega, G.out⟩
    · have h50z : ¬ ((50 : Int) ≤ (l : Int)) := by omega
      go_enter Try.func91, Try.ntmps91
      go_wp2_with fail
      refine (median_any blk off cap w.heap.size I J K 0 d _ HHA.out HHR.out HNE.out (by have := HB.out; omega) (by omega) (by have := HB.out; omega) hsz).mono ?_
      rintro e w4 ⟨p, z, rfl, hp, r4, g4⟩
      have P4 : a ≤ p ∧ p < b := by have := HB.out; omega
      have b4 := r4.one
      have G := Lib.hid (HW.out _ g4)
      clear hp r4 g4
      go_wp2_with fail
      all_goals go_ret2
      · exact ⟨p, 1, rfl, P4.1, P4.2, by omega, G.out⟩
      · exact ⟨p, 2, rfl, P4.1, P4.2, by omega, G.out⟩
      · exact ⟨p, 0, rfl, P4.1, P4.2, by omega, G.out⟩
  · have h8z : ¬ ((8 : Int) ≤ (l : Int)) := by omega
    go_enter Try.func91, Try.ntmps91
    go_wp2_with fail
    go_ret2
    exact ⟨J, 1, rfl, haJ, hJb, by omega, HW.out _ (World.grownBy.refl _ _)⟩
end Go.Proofs.Ytoodfmilleodaaa
