/- Pc. -/
import Derived.Test.YtckkmafppfcecaaGreatDoorRN38
import Derived.Test.YtckkmafppfcecaaGreatDoorRN45
import Derived.Test.YtckkmafppfcecaaGreatDoorRN46
set_option maxRecDepth 100000
set_option maxHeartbeats 4000000
namespace Go.Proofs.YtckkmafppfcecaaGreatDoor
open Go.RowKit Go.Proofs
set_option linter.unusedVariables false
set_option linter.unusedSimpArgs false
theorem inverseAll_any (A : Option Addr) (n c : Nat) (l : List Stg) (A' : Option Addr) (n' c' : Nat) (bs : List UInt8) (w : World) (hx : Stgs w A n c l) (hn : n ≤ 1000000000) (hy : Bytes w A' n' c' bs) (hn' : n' ≤ 1000000) :
    Calls Tryz.prog 19 #[.slice A n c, .slice A' n' c'] w (RetBytes w (bwP trI l bs).1 (bwP trI l bs).2) :=
  inverse_any trI A n c l A' n' c' bs w hx hn hy hn' fun h s hs => by
    obtain ⟨h0, h1, -, -⟩ := (typE_ok h).2.2.2 s hs
    exact bwAll _ _ (by omega)
section
variable (A : Option Addr) (n c : Nat) (l : List Stg) (B : Option Addr) (nb cb : Nat) (bs : List UInt8) (w : World)
theorem pipelineReturns_any (hx : Stgs w A n c l) (hn : n ≤ maxLen) (hz : Bytes w B nb cb bs) (hb : nb ≤ maxLen) (hT : TabY w) :
    Calls Tryz.prog 7 #[.slice A n c, .slice B nb cb] w fun e w' => e = .returned (.bool true) ∧ Below w.heap.size w w' := by
  have hF := few_any A n c l B nb cb w hx
  have HT := Lib.hid hT
  by_cases hF0 : fewB l nb = true
  · have hnb : nb ≤ 200 ∧ l.length ≤ 20 := by
      unfold fewB at hF0
      rw [Bool.and_eq_true, Bool.and_eq_true] at hF0
      exact ⟨of_decide_eq_true hF0.2.1, of_decide_eq_true hF0.1⟩
    have hb65 : bs.length ≤ 65536 := by rw [hz.1]; omega
    have hl := hx.1
    have hn12 : n ≤ 1000000000 := by omega
    rw [hF0] at hF
    have HF := Lib.hid hF
    have H1 := forwardAll_any A n c l B nb cb bs w hx (Nat.le_trans hn12 (by decide)) hz (by omega)
    have HX := Lib.hid hx
    have HZ := Lib.hid hz
    by_cases he : (typE l (0, 0)).1 = 0
    · have hE := fwP_err trF_err trF_len he hb65
      have hBk := bwP_back trI_back trF_len he hb65
      have hL := fun h => fwP_len trF_len hb65 (l := l) h
      have HC := Lib.hid (fun (W : World) (hW : Stgs W A n c l) => check_any A n c l W hW (Nat.le_trans hn12 (by decide)))
      rw [he] at HC
      obtain ⟨⟨o1, e1⟩, ho1⟩ : ∃ x, x = fwP trF l bs := ⟨_, rfl⟩
      rw [← ho1] at H1 hE hBk hL
      have HE := Lib.hid hE
      have HBK := Lib.hid hBk
      have HL := Lib.hid hL
      replace H1 := Lib.hid H1
      have HN := Lib.hid (And.intro hn12 hnb)
      clear ho1 hE hBk hL he hF hF0 hx hn hz hb hT hb65 hl hn12 hnb
      go_enter Tryz.func7, Tryz.ntmps7
      go_wp2_with fail
      refine HF.out.mono ?_
      rintro e w1 ⟨rfl, hw⟩
      obtain rfl : w = w1 := hw.symm
      go_wp2_with fail
      refine H1.out.mono ?_
      rintro e w1 ⟨A1, n1, c1, rfl, hy1, hb1⟩
      have HB1 := Lib.hid hb1
      have HX1 := Lib.hid (HX.out.below hb1)
      have HZ1 := Lib.hid (HZ.out.below hb1)
      have HD1 := Lib.hid hy1
      clear hb1 hy1 H1
      go_wp2_with fail
      refine (HC.out w1 HX1.out).mono ?_
      rintro e w2 ⟨rfl, hb2⟩
      have HB2 := Lib.hid (HB1.out.trans (hb2.mono HB1.out.size))
      have HX2 := Lib.hid (HX1.out.below hb2)
      have HZ2 := Lib.hid (HZ1.out.below hb2)
      have HD2 := Lib.hid (HD1.out.below hb2)
      clear hb2
      by_cases he1 : e1 = 0
      · have q7 : (e1 == 0) = true := by simp [he1]
        have hlen : n1 ≤ 1000000 := by have h1 := HL.out he1; have h2 := HD2.out.1; omega
        have H8 := inverseAll_any A n c l A1 n1 c1 o1 w2 HX2.out HN.out.1 HD2.out hlen
        rw [HBK.out he1] at H8
        replace H8 := Lib.hid H8
        clear he1 hlen
        go_wp2_with fail
        refine H8.out.mono ?_
        rintro e w3 ⟨A3, n3, c3, rfl, hy3, hb3⟩
        have HB3 := Lib.hid (HB2.out.trans (hb3.mono HB2.out.size))
        have HD3 := Lib.hid hy3
        have HZ3 := Lib.hid (HZ2.out.below hb3)
        clear hb3 hy3 H8
        go_wp2_with fail
        refine (awake_any w3 (HT.out.below HB3.out)).mono ?_
        rintro e w4 ⟨rfl, hb⟩
        have HB4 := Lib.hid (HB3.out.trans (hb.mono HB3.out.size))
        have r1 := (HD3.out.below hb).str 23 5 9 uB Tryz.underlying5 Tryz.underlying9
        have r2 := (HZ3.out.below hb).str 23 5 9 uB Tryz.underlying5 Tryz.underlying9
        have q8 : ((strB bs).toList == (strB bs).toList) = true := beq_self_eq_true _
        clear hb
        go_wp2_with fail
        go_ret
        exact ⟨rfl, HB4.out⟩
      · have q7 : (e1 == 0) = false := by simpa using he1
        have h5 := HE.out he1
        have q8 : (e1 == 5) = true := by rw [show e1 = 5 from h5]; rfl
        clear he1 h5
        go_wp2_with fail
        refine (awake_any w2 (HT.out.below HB2.out)).mono ?_
        rintro e w3 ⟨rfl, hb⟩
        have HB3 := Lib.hid (HB2.out.trans (hb.mono HB2.out.size))
        clear hb
        go_wp2_with fail
        go_ret
        exact ⟨rfl, HB3.out⟩
    · rw [fwP_bad he] at H1
      have HC := fun (W : World) (hW : Stgs W A n c l) => check_any A n c l W hW (Nat.le_trans hn12 (by decide))
      have HI := fun (W : World) (hW : Stgs W A n c l) (hB : Bytes W B nb cb bs) => inverseAll_any A n c l B nb cb bs W hW hn12 hB (by omega)
      rw [bwP_bad he] at HI
      obtain ⟨er, her⟩ : ∃ er, er = (typE l (0, 0)).1 := ⟨_, rfl⟩
      rw [← her] at H1 HC HI he
      replace HC := Lib.hid HC
      replace HI := Lib.hid HI
      replace H1 := Lib.hid H1
      have q0 : (er == 0) = false := by simpa using he
      have q1 : (er == er) = true := beq_self_eq_true _
      clear her he hF hF0 hx hn hz hb hT hb65 hl hn12 hnb
      go_enter Tryz.func7, Tryz.ntmps7
      go_wp2_with fail
      refine HF.out.mono ?_
      rintro e w1 ⟨rfl, hw⟩
      obtain rfl : w = w1 := hw.symm
      go_wp2_with fail
      refine H1.out.mono ?_
      rintro e w1 ⟨A1, n1, c1, rfl, hy1, hb1⟩
      obtain rfl : 0 = n1 := hy1.1
      have HB1 := Lib.hid hb1
      have HX1 := Lib.hid (HX.out.below hb1)
      have HZ1 := Lib.hid (HZ.out.below hb1)
      clear hb1 hy1 H1
      go_wp2_with fail
      refine (HC.out w1 HX1.out).mono ?_
      rintro e w2 ⟨rfl, hb2⟩
      have HB2 := Lib.hid (HB1.out.trans (hb2.mono HB1.out.size))
      have HX2 := Lib.hid (HX1.out.below hb2)
      have HZ2 := Lib.hid (HZ1.out.below hb2)
      clear hb2
      go_wp2_with fail
      refine (HI.out w2 HX2.out HZ2.out).mono ?_
      rintro e w3 ⟨A3, n3, c3, rfl, hy3, hb3⟩
      have HB3 := Lib.hid (HB2.out.trans (hb3.mono HB2.out.size))
      clear hb3 hy3
      go_wp2_with fail
      refine (awake_any w3 (HT.out.below HB3.out)).mono ?_
      rintro e w4 ⟨rfl, hb⟩
      have HB4 := Lib.hid (HB3.out.trans (hb.mono HB3.out.size))
      clear hb
      go_wp2_with fail
      go_ret
      exact ⟨rfl, HB4.out⟩
  · have hF0 : fewB l nb = false := by simpa using hF0
    rw [hF0] at hF
    have HF := Lib.hid hF
    clear hF hF0 hx hn hz hb hT
    go_enter Tryz.func7, Tryz.ntmps7
    go_wp2_with fail
    refine HF.out.mono ?_
    rintro e w1 ⟨rfl, hw⟩
    obtain rfl : w = w1 := hw.symm
    go_wp2_with fail
    refine (awake_any w HT.out).mono ?_
    rintro e w1 ⟨rfl, hb1⟩
    have HB1 := Lib.hid hb1
    clear hb1
    go_wp2_with fail
    go_ret
    exact ⟨rfl, HB1.out⟩
end
end Go.Proofs.YtckkmafppfcecaaGreatDoor
