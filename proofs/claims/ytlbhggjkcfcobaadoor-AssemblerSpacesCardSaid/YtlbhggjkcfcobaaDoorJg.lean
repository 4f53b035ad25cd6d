/- Spaces and comments between words change nothing: the walk of AssemblerSpaces. -/
import Derived.Test.YtlbhggjkcfcobaaDoorJf
import Derived.Test.YtlbhggjkcfcobaaDoorGr
namespace Go.Proofs.YtlbhggjkcfcobaaDoor
open Go.RowKit Go.Proofs
set_option linter.unusedVariables false

theorem trL_step (c : List UInt8) (ins : Bool) {s : List UInt8} {k : Nat} (h : k < s.length) (b : UInt8) (hb : s.getD k 0 = b) (i2 : Bool) (hi : i2 = if b = 10 then false else if b = 59 then true else ins) :
    trL c ins (s.drop k) = (if b = 32 ∧ i2 = false then gapL c else [b]) ++ trL c i2 (s.drop (k + 1)) := by
  rw [drop_getD h, hb, hi]
  rfl
theorem trL_over (c : List UInt8) (ins : Bool) {s : List UInt8} {k : Nat} (h : s.length ≤ k) : trL c ins (s.drop k) = [] := by rw [List.drop_of_length_le h]; rfl
set_option maxRecDepth 100000 in
set_option maxHeartbeats 8000000 in
theorem spaces_any (src com : List UInt8) (w : World) (hl : src.length < 9223372036854775808) (hlc : com.length < 9223372036854775808) (hE : ErrR w) (hS : w.ShapedOpen Tryd.prog) : Calls Tryd.prog 9 #[.string (strB src), .string (strB com)] w (RetB w true) := by
  have HE := Lib.hid hE
  have sz : (strB src).size = src.length := strB_size' src
  have szc : (strB com).size = com.length := strB_size' com
  clear hE
  by_cases h1 : 600 < src.length
  · have d1 : decide ((600 : Int) < (src.length : Int)) = true := by simp; omega
    have d1' : decide (600 < src.length) = true := by simp; omega
    go_enter Tryd.func9, Tryd.ntmps9
    go_wp2_with fail
    refine (awake_any w HE.out).mono ?_
    rintro e w1 ⟨rfl, hb1⟩
    go_wp2_with fail
    go_ret
    exact ⟨rfl, hb1⟩
  have d1 : decide ((600 : Int) < (src.length : Int)) = false := by simp; omega
  have d1' : decide (600 < src.length) = false := by simp; omega
  by_cases h2 : 20 < com.length
  · have d2 : decide ((20 : Int) < (com.length : Int)) = true := by simp; omega
    have d2' : decide (20 < com.length) = true := by simp; omega
    go_enter Tryd.func9, Tryd.ntmps9
    go_wp2_with fail
    refine (awake_any w HE.out).mono ?_
    rintro e w1 ⟨rfl, hb1⟩
    go_wp2_with fail
    go_ret
    exact ⟨rfl, hb1⟩
  have d2 : decide ((20 : Int) < (com.length : Int)) = false := by simp; omega
  have d2' : decide (20 < com.length) = false := by simp; omega
  have HRP := Lib.hid (replNl_any com w hS (by omega))
  have HLN : Hid (src.length ≤ 600 ∧ com.length ≤ 20) := ⟨by omega, by omega⟩
  have hs600 : src.length ≤ 600 := by omega
  have HI := Lib.hid (fun k hk W => run_index_strB src (k := k) hk W)
  clear h1 h2 hl hlc hS
  go_enter Tryd.func9, Tryd.ntmps9
  go_wp2_with fail
  refine HRP.out.mono ?_
  rintro e w1 ⟨c, rfl, hc10, hcl, hb1⟩
  have HC : Hid ((10 : UInt8) ∉ c ∧ c.length ≤ 20) := ⟨hc10, by have := HLN.out; omega⟩
  have e1 : (⟨#[32, 59]⟩ : ByteArray) ++ strB c = strB (32 :: 59 :: c) := strB_append [32, 59] c
  have e2 : strB (32 :: 59 :: c) ++ (⟨#[10, 9, 32]⟩ : ByteArray) = strB (gapL c) := strB_append (32 :: 59 :: c) [10, 9, 32]
  have zc : (strB c).size = c.length := strB_size' c
  have zd : (strB (32 :: 59 :: c)).size = c.length + 2 := by rw [strB_size']; rfl
  have g1 : ¬ 9223372036854775807 < (⟨#[32, 59]⟩ : ByteArray).size + (strB c).size := by rw [zc, show (⟨#[32, 59]⟩ : ByteArray).size = 2 from rfl]; have := HC.out; omega
  have g2 : ¬ 9223372036854775807 < (strB (32 :: 59 :: c)).size + (⟨#[10, 9, 32]⟩ : ByteArray).size := by rw [zd, show (⟨#[10, 9, 32]⟩ : ByteArray).size = 3 from rfl]; have := HC.out; omega
  have HF := Lib.hid (Bld.fresh w1)
  have hbx := balloc (Below.refl w1.heap.size w1) (.cells #[.pointer none, .slice none 0 0] 45)
  have HB1 := Lib.hid (And.intro hb1 hbx)
  clear hc10 hcl hb1 hbx HRP zc zd
  go_wp2_with fail
  go_loopw [7, 8] (fun s7 s8 wr => ∃ (k : Nat) (ins : Bool) (T : List UInt8), k ≤ src.length ∧ s7 = .bool ins ∧ s8 = .int .i64 (k : Int) ∧ Hid (Bld w1.heap.size w1.heap.size T wr ∧ T ++ trL c ins (src.drop k) = trL c false src ∧ Below w1.heap.size w1 wr)) (fun _ s8 _ => src.length - (intOf s8).toNat)
  case atStart => exact ⟨0, false, [], Nat.zero_le _, rfl, rfl, HF.out, rfl, HB1.out.2⟩
  case round =>
    clear HF e1 e2 g1 g2
    obtain ⟨k, ins, T, hk, rfl, rfl, HJ⟩ := hrel
    by_cases hkl : k < src.length
    · have d3 : decide ((k : Int) < (src.length : Int)) = true := by simp; omega
      have d3' : decide (k < src.length) = true := by simp; omega
      have hi := HI.out k hkl
      unfold gb at hi
      have HST := Lib.hid (fun b hb i2 hi2 => trL_step c ins (s := src) (k := k) hkl b hb i2 hi2)
      obtain ⟨b, hbe⟩ : ∃ b, b = src.getD k 0 := ⟨_, rfl⟩
      rw [← hbe] at hi
      have HST := Lib.hid (fun i2 hi2 => HST.out b hbe.symm i2 hi2)
      clear hbe
      have HTL : Hid (T.length ≤ 15000) := by
        have h3 := congrArg List.length HJ.out.2.1
        rw [List.length_append] at h3
        have h4 := trL_len c src false
        have h5 := HC.out.2
        have h6 := HLN.out.1
        have h7 : (c.length + 5) * src.length ≤ 25 * 600 := Nat.mul_le_mul (by omega) h6
        show T.length ≤ 15000
        omega
      have HBS : Hid (w1.heap.size ≤ wr.heap.size) := HJ.out.2.2.size
      have HBY := Lib.hid (bld_byte w1.heap.size w1.heap.size T b wr HJ.out.1 (by have := HTL.out; omega) HBS.out)
      have HNX : Hid (∀ i2 : Bool, i2 = (if b = 10 then false else if b = 59 then true else ins) → ¬ (b = 32 ∧ i2 = false) → (T ++ [b]) ++ trL c i2 (src.drop (k + 1)) = trL c false src) := fun i2 h3 h4 => by
        have h5 := HST.out i2 h3
        rw [if_neg h4] at h5
        rw [List.append_assoc, ← h5]
        exact HJ.out.2.1
      by_cases h59 : b = 59
      · subst h59
        have HN := Lib.hid (HNX.out true rfl (by decide))
        clear HNX HST
        go_wp2_with fail
        refine HBY.out.mono ?_
        rintro e w3 ⟨rfl, hB3, hb3⟩
        have HJ3 := Lib.hid (And.intro hB3 (HJ.out.2.2.trans hb3))
        clear hB3 hb3
        go_wp2_with fail
        go_roundw
        case rel => exact ⟨k + 1, true, _, by omega, rfl, by go_num, HJ3.out.1, HN.out, HJ3.out.2⟩
        case measure => simp [intOf]; omega
      have n59 : ((b.toNat : Int) == 59) = false := by
        have : b.toNat ≠ 59 := fun e => h59 (UInt8.toNat_inj.1 e)
        simp; omega
      by_cases h10 : b = 10
      · subst h10
        have HN := Lib.hid (HNX.out false rfl (by decide))
        clear HNX HST
        go_wp2_with fail
        refine HBY.out.mono ?_
        rintro e w3 ⟨rfl, hB3, hb3⟩
        have HJ3 := Lib.hid (And.intro hB3 (HJ.out.2.2.trans hb3))
        clear hB3 hb3
        go_wp2_with fail
        go_roundw
        case rel => exact ⟨k + 1, false, _, by omega, rfl, by go_num, HJ3.out.1, HN.out, HJ3.out.2⟩
        case measure => simp [intOf]; omega
      have n10 : ((b.toNat : Int) == 10) = false := by
        have : b.toNat ≠ 10 := fun e => h10 (UInt8.toNat_inj.1 e)
        simp; omega
      have hi2 : ins = (if b = 10 then false else if b = 59 then true else ins) := by rw [if_neg h10, if_neg h59]
      by_cases h32 : b = 32
      · cases ins with
        | true =>
          have HN := Lib.hid (HNX.out true hi2 (by simp))
          subst h32
          clear HNX HST h59 h10 hi2
          go_wp2_with fail
          refine HBY.out.mono ?_
          rintro e w3 ⟨rfl, hB3, hb3⟩
          have HJ3 := Lib.hid (And.intro hB3 (HJ.out.2.2.trans hb3))
          clear hB3 hb3
          go_wp2_with fail
          go_roundw
          case rel => exact ⟨k + 1, true, _, by omega, rfl, by go_num, HJ3.out.1, HN.out, HJ3.out.2⟩
          case measure => simp [intOf]; omega
        | false =>
          have HN : Hid ((T ++ gapL c) ++ trL c false (src.drop (k + 1)) = trL c false src) := by
            show _ = _
            have h5 := HST.out false hi2
            rw [if_pos ⟨h32, rfl⟩] at h5
            rw [List.append_assoc, ← h5]
            exact HJ.out.2.1
          have HGS := Lib.hid (bld_str w1.heap.size w1.heap.size T (gapL c) wr HJ.out.1 (by have := HTL.out; have := HC.out.2; unfold gapL; simp; omega) HBS.out)
          subst h32
          clear HNX HST h59 h10 hi2
          go_wp2_with fail
          refine HGS.out.mono ?_
          rintro e w3 ⟨rfl, hB3, hb3⟩
          have HJ3 := Lib.hid (And.intro hB3 (HJ.out.2.2.trans hb3))
          clear hB3 hb3
          go_wp2_with fail
          go_roundw
          case rel => exact ⟨k + 1, false, _, by omega, rfl, by go_num, HJ3.out.1, HN.out, HJ3.out.2⟩
          case measure => simp [intOf]; omega
      · have n32 : ((b.toNat : Int) == 32) = false := by
          have : b.toNat ≠ 32 := fun e => h32 (UInt8.toNat_inj.1 e)
          simp; omega
        have HN := Lib.hid (HNX.out ins hi2 (fun h => h32 h.1))
        clear HNX HST h59 h10 h32 hi2
        go_wp2_with fail
        refine HBY.out.mono ?_
        rintro e w3 ⟨rfl, hB3, hb3⟩
        have HJ3 := Lib.hid (And.intro hB3 (HJ.out.2.2.trans hb3))
        clear hB3 hb3
        go_wp2_with fail
        go_roundw
        case rel => exact ⟨k + 1, ins, _, by omega, rfl, by go_num, HJ3.out.1, HN.out, HJ3.out.2⟩
        case measure => simp [intOf]; omega
    · have d3 : decide ((k : Int) < (src.length : Int)) = false := by simp; omega
      have d3' : decide (k < src.length) = false := by simp; omega
      have HT : Hid (T = trL c false src) := by
        have := HJ.out.2.1
        rw [trL_over c ins (by omega), List.append_nil] at this
        exact this
      have HLE := Lib.hid (bld_len w1.heap.size w1.heap.size T wr HJ.out.1)
      have HBW := Lib.hid (HB1.out.1.trans (HJ.out.2.2.mono HB1.out.1.size))
      by_cases hlong : 8192 < T.length
      · have d4 : decide ((8192 : Int) < (T.length : Int)) = true := by simp; omega
        have d4' : decide (8192 < T.length) = true := by simp; omega
        go_wp2_with fail
        refine HLE.out.mono ?_
        rintro e w3 ⟨rfl, hw3⟩
        obtain rfl : wr = w3 := hw3.symm
        go_wp2_with fail
        refine (awake_any wr (HE.out.below HBW.out)).mono ?_
        rintro e w3 ⟨rfl, hb3⟩
        have HZ := Lib.hid (HBW.out.trans (hb3.mono HBW.out.size))
        clear hb3
        go_wp2_with fail
        go_ret
        exact ⟨rfl, HZ.out⟩
      · have d4 : decide ((8192 : Int) < (T.length : Int)) = false := by simp; omega
        have d4' : decide (8192 < T.length) = false := by simp; omega
        obtain ⟨e1, e2⟩ := strip_same (readL_tr (c := c) (s := src) HC.out.1 (by have := HLN.out.1; omega) (by rw [← HT.out]; omega))
        rw [← HT.out] at e1 e2
        have HA := Lib.hid (asmO_any src wr (by have := HLN.out.1; omega) (HE.out.below HBW.out))
        have HA2 := Lib.hid (fun W h => asmO_any T W (by omega) h)
        obtain ⟨r, hr⟩ : ∃ r, r = readL src := ⟨_, rfl⟩
        obtain ⟨q, hq⟩ : ∃ q, q = readL T := ⟨_, rfl⟩
        rw [← hr] at HA e1 e2
        rw [← hq] at HA2 e1 e2
        have HEQ := Lib.hid (And.intro e1 e2)
        clear hr hq e1 e2 HT
        go_wp2_with fail
        refine HLE.out.mono ?_
        rintro e w3 ⟨rfl, hw3⟩
        obtain rfl : wr = w3 := hw3.symm
        go_wp2_with fail
        refine HA.out.mono ?_
        rintro e w3 ⟨A, n, cc, L, A', n', c', rfl, hp1, ho1, ho2, hb3, hn, hn'⟩
        have rp := rowV.new w3 27 #[.slice A n cc, .int .i64 L, .slice A' n' c']
        have g2 := (Below.refl w3.heap.size w3).alloc (Nat.le_refl _) (.cells #[.slice A n cc, .int .i64 L, .slice A' n' c'] 27)
        have g3 := hb3.trans (g2.mono hb3.size)
        have b2 := HBW.out.trans (g3.mono HBW.out.size)
        have hp2 := hp1.below g2
        have hq1 := ho1.below g2
        have hq2 := ho2.below g2
        have hbl := HJ.out.1.below g3
        have hBb : w1.heap.size ≤ (w3.alloc (.cells #[.slice A n cc, .int .i64 L, .slice A' n' c'] 27)).heap.size := Nat.le_trans HJ.out.2.2.size g3.size
        obtain ⟨wa, hwa⟩ : ∃ wa, wa = w3.alloc (.cells #[.slice A n cc, .int .i64 L, .slice A' n' c'] 27) := ⟨_, rfl⟩
        rw [← hwa] at rp b2 hp2 hbl hBb hq1 hq2
        have HTX := Lib.hid (bld_text_k w1.heap.size w1.heap.size T wa hbl hBb)
        have H1 := Lib.hid (And.intro rp (And.intro b2 (And.intro hp2 (And.intro hq1 (And.intro hq2 hbl)))))
        have HWA := Lib.hid hwa
        clear rp g2 g3 b2 hp2 hp1 hb3 hwa HA hbl hBb hq1 hq2 ho1 ho2
        go_wp2_with fail
        rw [← HWA.out]
        refine HTX.out.mono ?_
        rintro e w4 ⟨rfl, hb4, hk4⟩
        have r4 := H1.out.2.2.2.2.2.kept_row hk4 H1.out.1 (by decide) (by decide)
        have o4 := H1.out.2.2.2.2.2.kept_own hk4 H1.out.2.2.2.1 (by decide) (by decide)
        have q4 := H1.out.2.2.2.2.2.kept_own hk4 H1.out.2.2.2.2.1 (by decide) (by decide)
        have hp4 : Progs w4 A n cc L A' n' c' (prgR r) := ⟨o4.toArrs H1.out.2.2.1.arrs.2.2.1, H1.out.2.2.1.locs, q4.toCodes H1.out.2.2.1.code.2.2.1, H1.out.2.2.1.wf⟩
        have b4 : Below w.heap.size w w4 := H1.out.2.1.trans (hb4.mono (HB1.out.1.size))
        have H4 := Lib.hid (And.intro r4 (And.intro hp4 b4))
        clear r4 o4 q4 hp4 b4 hb4 hk4 H1 HTX HWA
        go_wp2_with fail
        refine (HA2.out w4 (HE.out.below H4.out.2.2)).mono ?_
        rintro e w5 ⟨D, m, d, M, D', m', d', rfl, hq5, _, _, hb5, hm, hm'⟩
        have rq := rowV.new w5 27 #[.slice D m d, .int .i64 M, .slice D' m' d']
        have g3 := (Below.refl w5.heap.size w5).alloc (Nat.le_refl _) (.cells #[.slice D m d, .int .i64 M, .slice D' m' d'] 27)
        have gab := hb5.trans (g3.mono hb5.size)
        have H5 := And.intro rq (And.intro (hq5.below g3) (And.intro (H4.out.1.below gab H4.out.1.lt) (And.intro (H4.out.2.1.below gab) (H4.out.2.2.trans (gab.mono H4.out.2.2.size)))))
        obtain ⟨wb, hwb⟩ : ∃ wb, wb = w5.alloc (.cells #[.slice D m d, .int .i64 M, .slice D' m' d'] 27) := ⟨_, rfl⟩
        rw [← hwb] at H5
        have H5 := Lib.hid H5
        have HWB := Lib.hid hwb
        clear rq g3 gab hq5 hb5 hwb H4 HA2
        go_wp2_with fail
        rw [← HWB.out]
        refine (awake_any wb (HE.out.below H5.out.2.2.2.2)).mono ?_
        rintro e w6 ⟨rfl, hb6⟩
        have H6 := And.intro (H5.out.1.below hb6 H5.out.1.lt) (And.intro (H5.out.2.1.below hb6) (And.intro (H5.out.2.2.1.below hb6 H5.out.2.2.1.lt) (And.intro (H5.out.2.2.2.1.below hb6) (H5.out.2.2.2.2.trans (hb6.mono H5.out.2.2.2.2.size)))))
        obtain ⟨p0, p1, p2⟩ := three_cellsV H6.2.2.1
        obtain ⟨t0, t1, t2⟩ := three_cellsV H6.1
        have HS := same15_any A A' n cc n' c' L D D' m d m' d' M (prgR r) (prgR q) w6 H6.2.2.2.1 H6.2.1 hn hn'
        rw [HEQ.out.2, sameP_self] at HS
        replace HS := Lib.hid HS
        have HBL := Lib.hid H6.2.2.2.2
        have hee : erR r = erR q := HEQ.out.1
        clear H6 hb6 H5
        go_wp2_with fail
        refine HS.out.mono ?_
        rintro e w7 ⟨rfl, hb7⟩
        have HBM := Lib.hid (HBL.out.trans (hb7.mono HBL.out.size))
        clear hb7
        go_wp2_with fail
        go_ret
        exact ⟨by simp [hee], HBM.out⟩
end Go.Proofs.YtlbhggjkcfcobaaDoor
