/- strconv.FormatInt at base sixteen: the walk. -/
import Derived.Test.YtlbhggjkcfcobaaDoorJh
import Derived.Test.YtlbhggjkcfcobaaDoorGb
namespace Go.Proofs.YtlbhggjkcfcobaaDoor
open Go.RowKit Go.Proofs
set_option linter.unusedVariables false

/-- what is still to be written ahead of s. -/
def HexSt (n m : Nat) (s : List UInt8) : Prop := hxS m ++ s = hxS n
/-- the digits written so far, from cell j on. -/
def HexRow (W : World) (g j : Nat) (s : List UInt8) : Prop := ∃ cs, rowV W g 145 cs ∧ cs.size = 65 ∧ ∀ k, k < s.length → cs[j + k]? = some (.int .u8 ((s.getD k 0).toNat : Int))
theorem HexRow.step {W : World} {g j j1 : Nat} {s : List UInt8} (h : HexRow W g j s) (hj : j = j1 + 1) (h65 : j1 < 65) (b : UInt8) : HexRow (W.setCell ⟨g, j1, none⟩ (.int .u8 (b.toNat : Int))) g j1 (b :: s) := by
  obtain ⟨cs, h1, h2, h3⟩ := h
  refine ⟨_, h1.set j1 _, by simp [h2], fun k hk => ?_⟩
  rcases k with _ | k
  · rw [Nat.add_zero, Array.getElem?_setIfInBounds_self_of_lt (by omega)]
    rfl
  · rw [Array.getElem?_setIfInBounds_ne (by omega)]
    have := h3 k (by simpa using hk)
    rw [show j1 + (k + 1) = j + k by omega]
    exact this
theorem cut65 {g j : Nat} (hj : j < 65) (W : World) : (Instr.sliceAt 145 (.pointer (some ⟨g, 0, none⟩)) (some (.int .i64 (j : Int))) none none).run Tryd.prog W = .ok (.slice (some ⟨g, j, none⟩) (65 - j) (65 - j)) W := by
  have hl : Tryd.prog.arrayLen 145 = 65 := by kernel_rfl
  have hz : (sizeOf (Tryd.prog.elem 145)).run Tryd.prog W = .ok 1 W := by kernel_rfl
  rw [run_sliceAt_array_l W 145 ⟨g, 0, none⟩ (by kernel_rfl) .i64 (j : Int) (by omega) (by rw [hl]; omega), hz, hl]
  have hne : ¬ 65 = j := by omega
  simp [slicedAt, Result.andThen, hne, Addr.add]
  exact fun h => h.symm
theorem HexRow.cell {W : World} {g j j1 : Nat} {s : List UInt8} (h : HexRow W g j s) (hj : j1 < 65) : ∃ u, W.cell? ⟨g, j1, none⟩ = some u ∧ W.frozen? ⟨g, j1, none⟩ = false := by
  obtain ⟨cs, h1, h2, h3⟩ := h
  exact ⟨cs[j1]'(by omega), cell_rowV h1 (Array.getElem?_eq_getElem (by omega)), frozen_rowV' h1 j1⟩
theorem HexRow.bytes {W : World} {g j m : Nat} {s : List UInt8} (h : HexRow W g j s) (hs : s.length = m) : Bytes W (some ⟨g, j, none⟩) m m s := by
  obtain ⟨cs, h1, h2, h3⟩ := h
  exact ⟨hs, Nat.le_refl _, fun hm => ⟨g, j, rfl, h1.lt, fun i hi => cell_rowV h1 (h3 i (by omega))⟩⟩
set_option maxRecDepth 100000 in
set_option maxHeartbeats 4000000 in
theorem formatBits_any (n : Nat) (hn : n < 4294967296) (w : World) (hT : T64 w) : Calls Tryd.prog 57 #[.slice none 0 0, .int .u64 (n : Int), .int .i64 16, .bool false, .bool false] w fun e w' => e = .returned (.tuple #[.slice none 0 0, .string (strB (hxS n))]) ∧ Below w.heap.size w w' := by
  have b0 := balloc (Below.refl w.heap.size w) (.cells Tryd.zeroCells145 145)
  have r0 := rowV.new w 145 Tryd.zeroCells145
  obtain ⟨w0, hw0⟩ : ∃ w0, w0 = w.alloc (.cells Tryd.zeroCells145 145) := ⟨_, rfl⟩
  rw [← hw0] at b0 r0
  have HT := Lib.hid (hT.below b0)
  have HR0 : Hid (HexRow w0 w.heap.size 65 []) := ⟨_, r0, by kernel_rfl, fun k hk => absurd hk (Nat.not_lt_zero _)⟩
  have HB0 := Lib.hid b0
  have HW0 := Lib.hid hw0
  have HX := Lib.hid (fun d hd W => hexIdx (d := d) hd W)
  have h8 : (hxS n).length ≤ 8 := hxS_len 7 n (by omega)
  have HL := Lib.hid h8
  clear hT b0 r0 hw0 h8
  go_enter Tryd.func57, Tryd.ntmps57
  go_wp2_with fail
  rw [← HW0.out]
  refine (pow2_any w0).mono ?_
  rintro e w1 ⟨rfl, hw1⟩
  obtain rfl : w0 = w1 := hw1.symm
  go_wp2_with fail
  refine (tz_any w0 HT.out).mono ?_
  rintro e w1 ⟨rfl, hw1⟩
  obtain rfl : w0 = w1 := hw1.symm
  go_wp2_with fail
  go_loopw [1, 13] (fun s1 s13 wr => ∃ (m j : Nat) (s : List UInt8), m < 4294967296 ∧ j ≤ 65 ∧ 58 ≤ j ∧ s1 = .int .u64 (m : Int) ∧ s13 = .int .i64 (j : Int) ∧ Hid (HexSt n m s ∧ j + s.length = 65 ∧ HexRow wr w.heap.size j s ∧ Below w.heap.size w wr)) (fun s1 _ _ => (intOf s1).toNat)
  case atStart => exact ⟨n, 65, [], hn, Nat.le_refl _, by omega, rfl, rfl, List.append_nil _, rfl, HR0.out, HB0.out⟩
  case round =>
    clear HR0 HB0 hn
    obtain ⟨m, j, s, hm, hj, hj58, rfl, rfl, HJ⟩ := hrel
    obtain ⟨j1, hj1⟩ : ∃ j1, j1 = j - 1 := ⟨_, rfl⟩
    have ej : (j : Int) - 1 = (j1 : Int) := by omega
    have HJ1 : Hid (j = j1 + 1) := by show j = j1 + 1; omega
    have hj1b : j1 < 65 := by omega
    have hj57 : 57 ≤ j1 := by omega
    obtain ⟨u, c1, f1⟩ := HJ.out.2.2.1.cell hj1b
    clear hj1
    by_cases h16 : 16 ≤ m
    · have d1 : decide ((16 : Int) ≤ (m : Int)) = true := by simp; omega
      have d1' : decide (16 ≤ m) = true := by simp; omega
      obtain ⟨dd, hdd⟩ : ∃ dd, dd = m % 16 := ⟨_, rfl⟩
      obtain ⟨m2, hm2⟩ : ∃ m2, m2 = m / 16 := ⟨_, rfl⟩
      have ha := and15 m hm
      rw [← hdd] at ha
      have hx := HX.out dd (by omega)
      have em : (m : Int) / 16 = (m2 : Int) := by omega
      have HS2 : Hid (HexSt n m2 (hxB dd :: s)) := by
        show hxS m2 ++ hxB dd :: s = hxS n
        have h1 : hxS m ++ s = hxS n := HJ.out.1
        rw [hxS_big (by omega), ← hdd, ← hm2, List.append_assoc] at h1
        exact h1
      have HM2 : Hid (m2 < m ∧ m2 < 4294967296) := ⟨by omega, by omega⟩
      have H58 : Hid (58 ≤ j1) := by
        have h1 := congrArg List.length HS2.out
        have h2 := List.length_pos_iff.2 (hxS_ne m2)
        have h3 := HL.out
        have h4 := HJ.out.2.1
        have h5 := HJ1.out
        rw [List.length_append, List.length_cons] at h1
        show 58 ≤ j1
        omega
      have HR := Lib.hid (HJ.out.2.2.1.step HJ1.out hj1b (hxB dd))
      clear hdd hm2
      go_wp2_with fail
      go_roundw
      case rel => exact ⟨m2, j1, hxB dd :: s, HM2.out.2, by omega, H58.out, by go_num, by go_num, HS2.out, by have := HJ.out.2.1; have := HJ1.out; simp; omega, HR.out, HJ.out.2.2.2.trans (Below.setG (Nat.le_refl _) _)⟩
      case measure => have := HM2.out.1; simp [intOf]; omega
    · have d1 : decide ((16 : Int) ≤ (m : Int)) = false := by simp; omega
      have d1' : decide (16 ≤ m) = false := by simp; omega
      have hx := HX.out m (by omega)
      have HR := Lib.hid (HJ.out.2.2.1.step HJ1.out hj1b (hxB m))
      have HS2 : Hid (hxB m :: s = hxS n) := by
        have h1 : hxS m ++ s = hxS n := HJ.out.1
        rw [hxS_small (by omega)] at h1
        exact h1
      have HBF : Hid (Below w.heap.size w (wr.setCell ⟨w.heap.size, j1, none⟩ (.int .u8 ((hxB m).toNat : Int)))) := HJ.out.2.2.2.trans (Below.setG (Nat.le_refl _) _)
      have hcut := cut65 (g := w.heap.size) hj1b (wr.setCell ⟨w.heap.size, j1, none⟩ (.int .u8 ((hxB m).toNat : Int)))
      have hby := HR.out.bytes (m := 65 - j1) (by have := HJ.out.2.1; have := HJ1.out; simp; omega)
      rw [HS2.out] at hby
      have hstr := hby.str 41 5 9 Tryd.underlying41 Tryd.underlying5 Tryd.underlying9
      clear hby
      go_wp2_with fail
      refine bodyPost_ret (v := .tuple #[.slice none 0 0, .string (strB (hxS n))]) ?_ rfl ⟨rfl, HBF.out⟩
      simp [results, Tryd.results57, go_sem]
set_option maxRecDepth 100000 in
theorem formatI_any (n : Nat) (hn : n < 4294967296) (w : World) (hT : T64 w) : Calls Tryd.prog 35 #[.int .i64 (n : Int), .int .i64 16] w fun e w' => e = .returned (.string (strB (hxS n))) ∧ Below w.heap.size w w' := by
  have H := Lib.hid (formatBits_any n hn w hT)
  clear hT
  have d1 : decide ((n : Int) < 0) = false := by simp
  go_enter Tryd.func35, Tryd.ntmps35
  go_wp2_with fail
  refine H.out.mono ?_
  rintro e w1 ⟨rfl, hb⟩
  go_wp2_with fail
  go_ret
  exact ⟨rfl, hb⟩
theorem format16_any (n : Nat) (hn : n < 4294967296) (w : World) (hT : T64 w) : Calls Tryd.prog 21 #[.int .i64 (n : Int), .int .i64 16] w fun e w' => e = .returned (.string (strB (hxS n))) ∧ Below w.heap.size w w' := by
  have H := Lib.hid (formatI_any n hn w hT)
  clear hT hn
  go_enter Tryd.func21, Tryd.ntmps21
  go_wp2_with fail
  refine H.out.mono ?_
  rintro e w1 ⟨rfl, hb⟩
  go_wp2_with fail
  go_ret
  exact ⟨rfl, hb⟩
end Go.Proofs.YtlbhggjkcfcobaaDoor
