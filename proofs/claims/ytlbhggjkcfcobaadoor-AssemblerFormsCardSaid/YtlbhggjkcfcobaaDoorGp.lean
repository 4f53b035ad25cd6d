/- Walk of the law AssemblerForms. -/
import Derived.Test.YtlbhggjkcfcobaaDoorGm
import Derived.Test.YtlbhggjkcfcobaaDoorHb
namespace Go.Proofs.YtlbhggjkcfcobaaDoor
open Go.RowKit Go.Proofs
set_option linter.unusedVariables false

set_option maxRecDepth 100000 in
set_option maxHeartbeats 8000000 in
theorem forms_any (src : List UInt8) (w : World) (hl : src.length < 9223372036854775808) (hE : ErrR w) : Calls Tryd.prog 8 #[.string (strB src)] w (RetB w true) := by
  have HE := Lib.hid hE
  clear hE
  have HFW := Lib.hid (few_any src w hl)
  cases hf : fewN src.length with
  | false =>
    rw [hf] at HFW
    clear hf
    go_enter Tryd.func8, Tryd.ntmps8
    go_wp2_with fail
    refine HFW.out.mono ?_
    rintro e w1 ⟨rfl, hw1⟩
    obtain rfl : w = w1 := hw1.symm
    go_wp2_with fail
    refine (awake_any w HE.out).mono ?_
    rintro e w1 ⟨rfl, hb1⟩
    go_wp2_with fail
    go_ret
    exact ⟨rfl, hb1⟩
  | true =>
    rw [hf] at HFW
    have hl2 : src.length ≤ 8292 := by
      unfold fewN at hf
      simp at hf
      omega
    clear hf
    have HR := assemble_any src w (by omega) HE.out
    have HN := Lib.hid (fun W h => names_any src W (by omega) h)
    cases hr : readL src with
    | bad a er =>
      have hne := readL_ne hr
      rw [hr] at HR
      have HR' := Lib.hid HR
      have HN' : Hid (∀ W, ErrR W → Calls Tryd.prog 15 #[.string (strB src)] W (NamP (.bad a er) W)) := fun W h => by
        have h9 := HN.out W h
        rwa [hr] at h9
      have dne : (er != 0) = true := by simpa using hne
      clear HR hr hne HN
      go_enter Tryd.func8, Tryd.ntmps8
      go_wp2_with fail
      refine HFW.out.mono ?_
      rintro e w1 ⟨rfl, hw1⟩
      obtain rfl : w = w1 := hw1.symm
      clear HFW
      go_wp2_with fail
      refine HR'.out.mono ?_
      rintro e w1 ⟨rfl, hb1⟩
      have rp := rowV.new w1 27 #[.slice none 0 0, .int .i64 0, .slice none 0 0]
      have b2 := balloc hb1 (.cells #[.slice none 0 0, .int .i64 0, .slice none 0 0] 27)
      have H3 := Lib.hid (HN'.out _ (HE.out.below b2))
      have H2 := Lib.hid (And.intro rp b2)
      clear rp b2 hb1 HR' HN'
      go_wp2_with fail
      refine H3.out.mono ?_
      rintro e w2 ⟨rfl, hb2⟩
      have b4 := H2.out.2.trans (hb2.mono H2.out.2.size)
      have H5 := Lib.hid (awake_any _ (HE.out.below b4))
      have H6 := Lib.hid (And.intro (H2.out.1.below hb2 H2.out.1.lt) b4)
      clear b4 hb2 H2 H3
      go_wp2_with fail
      refine H5.out.mono ?_
      rintro e w3 ⟨rfl, hb3⟩
      obtain ⟨p0, p1, p2⟩ := three_cellsV (H6.out.1.below hb3 H6.out.1.lt)
      have H7 := Lib.hid (H6.out.2.trans (hb3.mono H6.out.2.size))
      clear H5 H6 hb3
      go_wp2_with fail
      go_ret
      exact ⟨rfl, H7.out⟩
    | ok s r =>
      have hF := readL_formed hr
      rw [hr] at HR
      have HR' := Lib.hid HR
      have HN' : Hid (∀ W, ErrR W → Calls Tryd.prog 15 #[.string (strB src)] W (NamP (.ok s r) W)) := fun W h => by
        have h9 := HN.out W h
        rwa [hr] at h9
      have HF := Lib.hid hF
      have HFM := Lib.hid hF.form
      clear HR hr HN hF
      go_enter Tryd.func8, Tryd.ntmps8
      go_wp2_with fail
      refine HFW.out.mono ?_
      rintro e w1 ⟨rfl, hw1⟩
      obtain rfl : w = w1 := hw1.symm
      clear HFW
      go_wp2_with fail
      refine HR'.out.mono ?_
      rintro e w1 ⟨A, n, c, A', n', c', rfl, hp1, hb1⟩
      have rp := rowV.new w1 27 #[.slice A n c, .int .i64 (s.ln.length : Int), .slice A' n' c']
      have g2 := (Below.refl w1.heap.size w1).alloc (Nat.le_refl _) (.cells #[.slice A n c, .int .i64 (s.ln.length : Int), .slice A' n' c'] 27)
      have b2 := hb1.trans (g2.mono hb1.size)
      have hp2 := hp1.below g2
      obtain ⟨wa, hwa⟩ : ∃ wa, wa = w1.alloc (.cells #[.slice A n c, .int .i64 (s.ln.length : Int), .slice A' n' c'] 27) := ⟨_, rfl⟩
      rw [← hwa] at rp b2 hp2
      have H1 := Lib.hid (And.intro rp (And.intro b2 hp2))
      have HWA := Lib.hid hwa
      clear rp g2 b2 hp2 hp1 hb1 hwa HR'
      go_wp2_with fail
      rw [← HWA.out]
      refine (HN'.out wa (HE.out.below H1.out.2.1)).mono ?_
      rintro e w2 ⟨D, m, d, rfl, hq1, hb3⟩
      have H2 := Lib.hid (And.intro (H1.out.1.below hb3 H1.out.1.lt) (And.intro (H1.out.2.2.below hb3) (H1.out.2.1.trans (hb3.mono H1.out.2.1.size))))
      have en : s.arrs.length = n := H2.out.2.1.arrs.1
      have en' : s.code.length = n' := H2.out.2.1.code.1
      have em : m = n + s.ln.length := by have := hq1.1; rw [List.length_append, HF.out.an] at this; omega
      have HEN := Lib.hid (And.intro en (And.intro en' em))
      have hn10 : n' ≤ 1024 := by rw [← en']; exact HF.out.code
      have hn8 : n ≤ 8 := by rw [← en]; exact HF.out.few
      have hl16 : s.ln.length ≤ 16 := HF.out.locs
      have HL : Hid (∀ k, k < n' → InsOk n s.ln.length (gI s.code k)) := fun k hk => by
        rw [← en]
        refine HF.out.ins _ ?_
        unfold gI
        rw [List.getD_eq_getElem?_getD, List.getElem?_eq_getElem (by omega)]
        exact List.getElem_mem _
      obtain ⟨la, hla⟩ : ∃ la : Nat, la = s.ln.length := ⟨_, rfl⟩
      rw [← hla] at H2 HEN hl16 HL em
      have HLA := Lib.hid hla
      clear H1 HWA HN' hq1 hb3 en en' hla
      go_wp2_with fail
      go_loopw [9, 10] (fun i _ wr => ∃ k : Nat, k ≤ n' ∧ i = .int .i64 (k : Int) ∧ Below w2.heap.size w2 wr) (fun i _ _ => n' - (intOf i).toNat)
      case atStart => exact ⟨0, Nat.zero_le _, rfl, Below.refl _ _⟩
      case round =>
        obtain ⟨k, hk, rfl, hb⟩ := hrel
        obtain ⟨p0, p1, p2⟩ := three_cellsV (H2.out.1.below hb H2.out.1.lt)
        by_cases hlt : k < n'
        · have e1 : decide ((k : Int) < (n' : Int)) = true := by simp; omega
          have e1' : decide (k < n') = true := by simp; omega
          have hcd := H2.out.2.1.code.below hb
          obtain ⟨b, off, rfl, hbl, hcell⟩ := hcd.get hlt
          obtain ⟨q1, q2⟩ := hcell k hlt
          rw [show (prgOf s).code = s.code from rfl] at q1 q2
          have hio := HL.out k hlt
          obtain ⟨x, hxe⟩ : ∃ x, x = gI s.code k := ⟨_, rfl⟩
          rw [← hxe] at q1 q2 hio
          clear hxe hcell hcd
          obtain ⟨op, arg⟩ := x
          obtain ⟨i1, i2, i3, i4, i5, i6, i7, i8⟩ := hio
          dsimp only at q1 q2 i1 i2 i3 i4 i5 i6 i7 i8
          have hb' := balloc hb (.cells #[.int .i64 op, .int .u32 arg] 57)
          have r1 := rowV.new wr 57 #[.int .i64 op, .int .u32 arg]
          have HI := Lib.hid (And.intro i5 (And.intro i6 (And.intro i7 i8)))
          have HB := Lib.hid hb'
          have hbw : b < wr.heap.size := hbl
          have hpl : w1.heap.size < wr.heap.size := (H2.out.1.below hb H2.out.1.lt).lt
          clear i5 i6 i7 i8 hb' r1
          by_cases o1 : op = 1 ∨ op = 2
          · have ha := HI.out.2.1 o1
            have d1 : decide ((la : Int) ≤ arg) = false := by simp; omega
            rcases o1 with rfl | rfl
            · go_wp2_with fail
              go_roundw
              case rel => exact ⟨k + 1, by omega, by go_num, HB.out⟩
              case measure => simp [intOf]; omega
            · go_wp2_with fail
              go_roundw
              case rel => exact ⟨k + 1, by omega, by go_num, HB.out⟩
              case measure => simp [intOf]; omega
          · by_cases o3 : op = 3 ∨ op = 4
            · have ha := HI.out.2.2.1 o3
              have d1 : decide ((n : Int) ≤ arg) = false := by simp; omega
              rcases o3 with rfl | rfl
              · go_wp2_with fail
                go_roundw
                case rel => exact ⟨k + 1, by omega, by go_num, HB.out⟩
                case measure => simp [intOf]; omega
              · go_wp2_with fail
                go_roundw
                case rel => exact ⟨k + 1, by omega, by go_num, HB.out⟩
                case measure => simp [intOf]; omega
            · have f1 : (op == 1) = false := by simp; omega
              have f2 : (op == 2) = false := by simp; omega
              have f3 : (op == 3) = false := by simp; omega
              have f4 : (op == 4) = false := by simp; omega
              clear o1 o3
              go_wp2_with fail
              go_roundw
              case rel => exact ⟨k + 1, by omega, by go_num, HB.out⟩
              case measure => simp [intOf]; omega
        · have e1 : decide ((k : Int) < (n' : Int)) = false := by simp; omega
          have e1' : decide (k < n') = false := by simp; omega
          have hpr := H2.out.2.1.below hb
          have HEC := encode_any A A' n c n' c' (la : Int) (prgOf s) wr hpr
          rw [HFM.out] at HEC
          have HEC' := Lib.hid HEC
          have H4 := Lib.hid (And.intro (H2.out.1.below hb H2.out.1.lt) (H2.out.2.2.trans (hb.mono H2.out.2.2.size)))
          clear HEC hpr hb H2 HL
          go_wp2_with fail
          refine HEC'.out.mono ?_
          rintro e w4 ⟨U, u, v, rfl, hb4⟩
          have H5 := Lib.hid (And.intro (H4.out.1.below hb4 H4.out.1.lt) (H4.out.2.trans (hb4.mono H4.out.2.size)))
          have H6 := Lib.hid (awake_any w4 (HE.out.below H5.out.2))
          clear HEC' H4 hb4 p0 p1 p2
          go_wp2_with fail
          refine H6.out.mono ?_
          rintro e w5 ⟨rfl, hb5⟩
          obtain ⟨p0, p1, p2⟩ := three_cellsV (H5.out.1.below hb5 H5.out.1.lt)
          have H7 := Lib.hid (H5.out.2.trans (hb5.mono H5.out.2.size))
          have v3 : ((m : Int) == (n : Int) + (la : Int)) = true := by simp; omega
          clear H5 H6 hb5 em
          go_wp2_with fail
          go_ret
          exact ⟨rfl, H7.out⟩
end Go.Proofs.YtlbhggjkcfcobaaDoor
