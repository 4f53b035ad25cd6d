/- Count of the reference of layer 33. -/
import Derived.Test.YtoodfmilleodaaaBs
namespace Go.Proofs.Ytoodfmilleodaaa
open Go.RowKit Go.Proofs Go.Sort
set_option linter.unusedVariables false

/-- at how many of the first k places a pattern occurs. -/
def occTo (s pat : List UInt8) : Nat → Nat
  | 0 => 0
  | k + 1 => occTo s pat k + if (s.drop k).take pat.length = pat then 1 else 0
def occN (s pat : List UInt8) : Nat := occTo s pat (s.length + 1 - pat.length)
theorem occTo_le (s pat : List UInt8) : ∀ k, occTo s pat k ≤ k
  | 0 => Nat.le_refl _
  | k + 1 => by rw [occTo]; have := occTo_le s pat k; split <;> omega
def cntResR (bs : List UInt8) (p : Int) (pat : List UInt8) : Int := if cntErr bs p pat = 0 then (occN (invRes bs p) pat : Int) else 0
theorem invRes_len (bs : List UInt8) (p : Int) (h : invErr bs p = 0) : (invRes bs p).length = bs.length := by
  unfold invErr at h
  unfold invRes
  by_cases h0 : limE bs.length p = 0
  · rw [if_pos h0] at h ⊢
    obtain ⟨h1, h2, h3⟩ := limE_zero h0
    unfold invE at h
    unfold invL
    by_cases h4 : wl p.toNat bs < bs.length
    · rw [if_pos h4] at h; cases h
    · rw [if_neg h4]
      have := wl_le (p := p.toNat) (bs := bs) (by omega)
      rw [List.length_reverse]; unfold backL; rw [backTo_length]; omega
  · rw [if_neg h0] at h; exact absurd h h0

set_option maxHeartbeats 2000000 in
theorem countR_any (A A' : Option Addr) (n c n' c' : Nat) (p : Int) (bs pat : List UInt8) (w : World) (hx : Bytes w A n c bs) (hy : Bytes w A' n' c' pat) (hn : n ≤ 1000000000) (hn' : n' ≤ 1000000000) :
    Calls Try.prog 21 #[.slice A n c, .int .i64 p, .slice A' n' c'] w fun e w' => e = .returned (.tuple #[.int .i64 (cntResR bs p pat), .int .i64 (cntErr bs p pat)]) ∧ Below w.heap.size w w' := by
  have Hn := Lib.hid hx.1
  have Hn' := Lib.hid hy.1
  have Hcal := Lib.hid (inverseR_any A n c p bs w hx hn)
  by_cases h0 : invErr bs p = 0
  · have hil := invRes_len bs p h0
    rw [Hn.out] at hil
    by_cases h1 : 65536 < n'
    · have hR : Hid (cntResR bs p pat = 0 ∧ cntErr bs p pat = 5) := by
        show _ ∧ _
        have e1 : cntErr bs p pat = 5 := by unfold cntErr; rw [if_neg (by rw [h0]; simp), Hn'.out, if_pos h1]
        unfold cntResR
        rw [e1, if_neg (by decide)]; exact ⟨rfl, rfl⟩
      have d1 : decide ((65536 : Int) < (n' : Int)) = true := by simp; omega
      have d2 : decide (65536 < n') = true := by simp; omega
      rw [h0] at Hcal
      clear h0
      go_enter Try.func21, Try.ntmps21
      go_wp2_with fail
      refine Hcal.out.mono ?_
      rintro e w1 ⟨A1, n1, c1, rfl, -, hb1⟩
      go_wp2_with fail
      go_ret2
      rw [hR.out.1, hR.out.2]
      exact ⟨rfl, hb1⟩
    · have hR : Hid (cntResR bs p pat = (occN (invRes bs p) pat : Int) ∧ cntErr bs p pat = 0) := by
        show _ ∧ _
        have e1 : cntErr bs p pat = 0 := by unfold cntErr; rw [if_neg (by rw [h0]; simp), Hn'.out, if_neg h1]
        unfold cntResR
        rw [e1, if_pos rfl]; exact ⟨rfl, rfl⟩
      have d1 : decide ((65536 : Int) < (n' : Int)) = false := by simp; omega
      have d2 : decide (65536 < n') = false := by simp; omega
      rw [h0] at Hcal
      clear h0
      obtain ⟨s, hs⟩ : ∃ s, s = invRes bs p := ⟨_, rfl⟩
      rw [← hs] at Hcal hR hil
      clear hs
      go_enter Try.func21, Try.ntmps21
      go_wp2_with fail
      refine Hcal.out.mono ?_
      rintro e w1 ⟨A1, n1, c1, rfl, hx1, hb1⟩
      have hn1 : n1 = n := by rw [← hx1.1]; exact hil
      subst hn1
      have Hil := Lib.hid hil
      clear hil Hcal
      have hy1 := hy.below hb1
      have s2 : ∀ q, (convert 22 9 (.slice A' n' c')).run Try.prog (w1.drewN q) = .ok (.string (strB pat)) (w1.drewN q) := fun q => (hy1.drewN q).str 22 5 9 uB Go.Proofs.Ytoodfmilleodaaa.u8 uS
      go_wp2_with fail
      go_loopw [10, 11] (fun x i wr => ∃ k : Nat, (k ≤ n1 + 1 - n' ∨ k = 0) ∧ i = .int .i64 (k : Int) ∧ x = .int .i64 (occTo s pat k : Int) ∧ Drawn w1 wr) (fun _ i _ => n1 + 1 - (intOf i).toNat)
      case atStart => exact ⟨0, .inr rfl, rfl, rfl, Drawn.refl _⟩
      case round =>
        obtain ⟨k, hk, rfl, rfl, qd, rfl⟩ := hrel
        have hol := occTo_le s pat k
        have hstep : Hid (occTo s pat (k + 1) = occTo s pat k + if (s.drop k).take pat.length = pat then 1 else 0) := rfl
        rw [Hn'.out] at hstep
        by_cases hlt : k + n' ≤ n1
        · have dk : decide ((k : Int) + (n' : Int) ≤ (n1 : Int)) = true := by simp; omega
          have dk' : decide (k + n' ≤ n1) = true := by simp; omega
          obtain ⟨A4, r4, v4⟩ := hx1.cut_lh tB eB sB (k : Int) ((k : Int) + (n' : Int)) (by omega) (by omega) (by omega)
          rw [Int.toNat_natCast, show ((k : Int) + (n' : Int)).toNat - k = n' by omega] at r4 v4
          have s4 : ∀ q, (convert 22 9 (.slice A4 n' (c1 - k))).run Try.prog (w1.drewN q) = .ok (.string (strB ((s.drop k).take n'))) (w1.drewN q) := fun q => (v4.drewN q).str 22 5 9 uB Go.Proofs.Ytoodfmilleodaaa.u8 uS
          have hcmp := strB_beq ((s.drop k).take n') pat
          obtain ⟨x, hx'⟩ : ∃ x, x = occTo s pat k := ⟨_, rfl⟩
          rw [← hx'] at hol hstep ⊢
          clear hx'
          by_cases heq : (s.drop k).take n' = pat
          · rw [decide_eq_true heq] at hcmp
            rw [if_pos heq] at hstep
            have hst := Lib.hid (hstep.out)
            obtain ⟨sub, hsub⟩ : ∃ sub, sub = (s.drop k).take n' := ⟨_, rfl⟩
            rw [← hsub] at s4 hcmp
            clear heq hsub
            go_wp2_with fail
            go_quiet (fail)
            go_wp2_with fail
            go_roundw
            case rel => exact ⟨k + 1, .inl (by omega), by go_num, by rw [hst.out]; go_num, _, rfl⟩
            case measure => simp [intOf]; omega
          · rw [decide_eq_false heq] at hcmp
            rw [if_neg heq, Nat.add_zero] at hstep
            have hst := Lib.hid (hstep.out)
            obtain ⟨sub, hsub⟩ : ∃ sub, sub = (s.drop k).take n' := ⟨_, rfl⟩
            rw [← hsub] at s4 hcmp
            clear heq hsub
            go_wp2_with fail
            go_quiet (fail)
            go_wp2_with fail
            go_roundw
            case rel => exact ⟨k + 1, .inl (by omega), by go_num, by rw [hst.out]; rfl, _, rfl⟩
            case measure => simp [intOf]; omega
        · have dk : decide ((k : Int) + (n' : Int) ≤ (n1 : Int)) = false := by simp; omega
          have dk' : decide (k + n' ≤ n1) = false := by simp; omega
          have he : Hid (occTo s pat k = occN s pat) := by show _ = _; unfold occN; rw [Hil.out, Hn'.out, show n1 + 1 - n' = k by omega]
          go_wp2_with fail
          go_ret2
          rw [hR.out.1, hR.out.2, ← he.out]
          exact ⟨rfl, hb1.trans ((Drawn.drewN w1 qd).below _)⟩
  · have hR : Hid (cntResR bs p pat = 0 ∧ cntErr bs p pat = invErr bs p) := by
      show _ ∧ _
      have e1 : cntErr bs p pat = invErr bs p := by unfold cntErr; rw [if_pos h0]
      unfold cntResR
      rw [e1, if_neg h0]; exact ⟨rfl, rfl⟩
    obtain ⟨x, hx'⟩ : ∃ x, x = invErr bs p := ⟨_, rfl⟩
    rw [← hx'] at h0 hR Hcal
    clear hx'
    have d0 : (x != 0) = true := by simp; exact h0
    clear h0
    go_enter Try.func21, Try.ntmps21
    go_wp2_with fail
    refine Hcal.out.mono ?_
    rintro e w1 ⟨A1, n1, c1, rfl, -, hb1⟩
    go_wp2_with fail
    go_ret2
    rw [hR.out.1, hR.out.2]
    exact ⟨rfl, hb1⟩
end Go.Proofs.Ytoodfmilleodaaa
