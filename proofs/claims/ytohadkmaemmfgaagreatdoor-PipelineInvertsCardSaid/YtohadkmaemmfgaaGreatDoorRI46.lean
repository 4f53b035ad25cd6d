/- Ug Uh Ui. -/
import Derived.Test.YtohadkmaemmfgaaGreatDoorRI23
import Derived.Test.YtohadkmaemmfgaaGreatDoorRI44
import Derived.Test.YtohadkmaemmfgaaGreatDoorRI60
set_option maxRecDepth 100000
set_option maxHeartbeats 4000000
namespace Go.Proofs.YtohadkmaemmfgaaGreatDoor
open Go.RowKit Go.Proofs
set_option linter.unusedVariables false
set_option linter.unusedSimpArgs false
attribute [local go_sem] Oper.semAt_some
theorem and_one01 : ∀ (y : Fin 256) (r : Fin 8), bits BinOp.and IntKind.i64 ((y.val : Int) / 2 ^ (7 - r.val)) 1 = ((b01 (y.val.testBit (7 - r.val)) : Nat) : Int) := by decide +kernel
theorem get01_any (A : Option Addr) (n c i : Nat) (bs : List UInt8) (w : World) (hx : Bytes w A n c bs) (hn : n ≤ 65536) (hi : i < 8 * n) :
    Calls Tryz.prog 273 #[.agg #[.slice A n c, .int .i64 ((8 * n : Nat) : Int)], .int .i64 (i : Int)] w fun e w' => e = .returned (.int .i64 ((b01 (bitD bs i) : Nat) : Int)) ∧ Below w.heap.size w w' := by
  obtain ⟨bb, off, rfl, -, hc⟩ := hx.2.2 (by omega)
  have hcap := hx.2.1
  obtain ⟨q, hq⟩ : ∃ q, q = i / 8 := ⟨_, rfl⟩
  obtain ⟨r, hr⟩ : ∃ r, r = i % 8 := ⟨_, rfl⟩
  have hqn : q < n := by omega
  have hr8 : r < 8 := by omega
  obtain ⟨w1, hw1⟩ : ∃ w1, w1 = w.alloc (.cells #[.slice (some ⟨bb, off, none⟩) n c, .int .i64 ((8 * n : Nat) : Int)] 184) := ⟨_, rfl⟩
  have r1 : rowV w1 w.heap.size 184 #[.slice (some ⟨bb, off, none⟩) n c, .int .i64 ((8 * n : Nat) : Int)] := by rw [hw1]; exact rowV.new w _ _
  have hb : Below w.heap.size w w1 := by rw [hw1]; exact balloc (Below.refl _ _) _
  have y0 : w1.cell? ⟨bb, off + q, none⟩ = some (.int .u8 ((bA bs q).toNat : Int)) := (hx.below hb).cell hqn
  have c0 := r1.cell (j := 0) rfl
  obtain ⟨N, hN⟩ : ∃ N, N = 8 * n := ⟨_, rfl⟩
  have t1 : (i : Int).tdiv 8 = (q : Int) := by rw [Int.tdiv_eq_ediv_of_nonneg (by omega)]; omega
  have t2 : (i : Int).tmod 8 = (r : Int) := by rw [Int.tmod_eq_emod_of_nonneg (by omega)]; omega
  have t3 : (i : Int) / 8 = (q : Int) := by omega
  have t4 : (i : Int) % 8 = (r : Int) := by omega
  have HB : Hid (bitD bs i = (bA bs q).toNat.testBit (7 - r)) := by unfold Hid bitD; rw [hq, hr]
  have hylt := (bA bs q).toNat_lt
  obtain ⟨y, hy⟩ : ∃ y, y = (bA bs q).toNat := ⟨_, rfl⟩
  rw [← hy] at y0 HB hylt
  rw [HB.out]
  rw [hw1, ← hN] at c0 y0
  rw [← hN]
  rw [← hN] at hw1
  have HBB := Lib.hid hb
  have HW := Lib.hid hw1
  clear hc hq hr hy hx hi hN hw1 hb r1
  go_enter Tryz.func273, Tryz.ntmps273
  go_wp2_with fail
  rw [and_one01 ⟨y, hylt⟩ ⟨r, hr8⟩]
  go_ret
  rw [← HW.out]
  exact ⟨rfl, HBB.out⟩
theorem chk01_any (A : Option Addr) (n c : Nat) (w : World) (hn : n ≤ 65536) :
    Calls Tryz.prog 272 #[.agg #[.slice A n c, .int .i64 ((8 * n : Nat) : Int)]] w fun e w' => e = .returned (.int .i64 0) ∧ Below w.heap.size w w' := by
  obtain ⟨N, hN⟩ : ∃ N, N = 8 * n := ⟨_, rfl⟩
  rw [← hN]
  have hN2 : N ≤ 524288 := by omega
  have t1 : ((N : Int) + 7).tdiv 8 = (n : Int) := by rw [Int.tdiv_eq_ediv_of_nonneg (by omega)]; omega
  have t4 : ((N : Int) + 7) / 8 = (n : Int) := by omega
  have t5 : 8 * (n : Int) = (N : Int) := by omega
  have d0 : decide ((N : Int) < 0) = false := decide_eq_false (by omega)
  have d1 : decide ((524288 : Int) < (N : Int)) = false := decide_eq_false (by omega)
  have d1' : decide (524288 < N) = false := decide_eq_false (by omega)
  have d2 : decide ((N : Int) < (N : Int)) = false := decide_eq_false (by omega)
  have d2' : decide (N < N) = false := decide_eq_false (by omega)
  have q0 : ((n : Int) == (n : Int)) = true := beq_self_eq_true _
  obtain ⟨w1, hw1⟩ : ∃ w1, w1 = w.alloc (.cells #[.slice A n c, .int .i64 (N : Int)] 184) := ⟨_, rfl⟩
  have r1 : rowV w1 w.heap.size 184 #[.slice A n c, .int .i64 (N : Int)] := by rw [hw1]; exact rowV.new w _ _
  have hb : Below w.heap.size w w1 := by rw [hw1]; exact balloc (Below.refl _ _) _
  have c0 := r1.cell (j := 0) rfl
  have c1 := r1.cell (j := 1) rfl
  rw [hw1] at c0 c1
  have HB := Lib.hid hb
  have HW := Lib.hid hw1
  clear r1 hb hw1 hN
  go_enter Tryz.func272, Tryz.ntmps272
  go_wp2_with fail
  go_loopw [3] (fun vi wr => vi = .int .i64 (N : Int) ∧ wr = w.alloc (.cells #[.slice A n c, .int .i64 (N : Int)] 184)) (fun _ _ => 0)
  case atStart => exact ⟨rfl, rfl⟩
  case round =>
    obtain ⟨rfl, rfl⟩ := hrel
    go_wp2_with fail
    go_ret
    rw [← HW.out]
    exact ⟨rfl, HB.out⟩
theorem valB_le {g : Nat → Bool} {i k m : Nat} (h : k ≤ m) : valB g i k < 2 ^ m := Nat.lt_of_lt_of_le (valB_lt g i k) (Nat.pow_le_pow_right (by decide) h)
theorem read01_any (A : Option Addr) (n c i cnt : Nat) (bs : List UInt8) (w : World) (hx : Bytes w A n c bs) (hn : n ≤ 65536) (hc : cnt ≤ 32) (hi : i ≤ 1000000) :
    Calls Tryz.prog 234 #[.agg #[.slice A n c, .int .i64 ((8 * n : Nat) : Int)], .int .i64 (i : Int), .int .i64 (cnt : Int)] w fun e w' => e = .returned (.tuple #[.int .u32 ((rdV (bitD bs) (8 * n) i cnt : Nat) : Int), .int .i64 (rdE (8 * n) i cnt)]) ∧ Below w.heap.size w w' := by
  obtain ⟨w0, hw0⟩ : ∃ w0, w0 = w.alloc (.cells #[.slice A n c, .int .i64 ((8 * n : Nat) : Int)] 184) := ⟨_, rfl⟩
  have r0 : rowV w0 w.heap.size 184 #[.slice A n c, .int .i64 ((8 * n : Nat) : Int)] := by rw [hw0]; exact rowV.new w _ _
  have hb0 : Below w.heap.size w w0 := by rw [hw0]; exact balloc (Below.refl _ _) _
  have HCH := Lib.hid (chk01_any A n c w0 hn)
  have HX := Lib.hid hx
  have HGT := Lib.hid (fun j W hW hj => get01_any A n c j bs W hW hn hj)
  have HN8 : Hid (8 * n ≤ 524288) := by unfold Hid; omega
  obtain ⟨N, hN⟩ : ∃ N, N = 8 * n := ⟨_, rfl⟩
  rw [← hN] at hw0 r0 HCH HN8 HGT ⊢
  have hN8 := HN8.out
  have HN := Lib.hid hN
  have HW0 := Lib.hid hw0
  have HB0 := Lib.hid hb0
  have R0 := Lib.hid r0
  have e0 : decide ((cnt : Int) < 0) = false := decide_eq_false (by omega)
  have e1 : decide ((32 : Int) < (cnt : Int)) = false := decide_eq_false (by omega)
  have e1' : decide (32 < cnt) = false := decide_eq_false (by omega)
  have e2 : decide ((i : Int) < 0) = false := decide_eq_false (by omega)
  clear hN hw0 hb0 r0 hx
  have k0 : w0.cell? ⟨w.heap.size, 0, none⟩ = some (.slice A n c) := R0.out.cell rfl
  have k1 : w0.cell? ⟨w.heap.size, 1, none⟩ = some (.int .i64 (N : Int)) := R0.out.cell rfl
  rw [HW0.out] at k0 k1
  by_cases hlt : N < i + cnt
  · have d0 : decide ((N : Int) - (cnt : Int) < (i : Int)) = true := decide_eq_true (by omega)
    have HR : Hid (rdV (bitD bs) N i cnt = 0 ∧ rdE N i cnt = 9) := ⟨if_pos hlt, if_pos hlt⟩
    rw [HR.out.1, HR.out.2]
    clear hlt
    go_enter Tryz.func234, Tryz.ntmps234
    go_wp2_with fail
    rw [← HW0.out]
    refine HCH.out.mono ?_
    rintro e w1 ⟨rfl, hb1⟩
    have r1 := R0.out.below hb1 R0.out.lt
    have k2 := r1.cell (j := 1) rfl
    have HB1 := Lib.hid (HB0.out.trans (hb1.mono HB0.out.size))
    clear r1 hb1 k0 k1
    go_wp2_with fail
    go_ret2
    exact ⟨rfl, HB1.out⟩
  · have d0 : decide ((N : Int) - (cnt : Int) < (i : Int)) = false := decide_eq_false (by omega)
    have HR : Hid (rdV (bitD bs) N i cnt = valB (bitD bs) i cnt ∧ rdE N i cnt = 0) := ⟨if_neg hlt, if_neg hlt⟩
    rw [HR.out.1, HR.out.2]
    have hic : i + cnt ≤ N := by omega
    clear hlt
    go_enter Tryz.func234, Tryz.ntmps234
    go_wp2_with fail
    rw [← HW0.out]
    refine HCH.out.mono ?_
    rintro e w1 ⟨rfl, hb1⟩
    have r1 := R0.out.below hb1 R0.out.lt
    have k2 := r1.cell (j := 1) rfl
    have R1 := Lib.hid r1
    have HB1 := Lib.hid (HB0.out.trans (hb1.mono HB0.out.size))
    clear r1 hb1 k0 k1
    go_wp2_with fail
    go_loopw [9, 10] (fun vn vi wr => ∃ j v : Nat, i ≤ j ∧ j ≤ i + cnt ∧ vi = .int .i64 (j : Int) ∧ vn = .int .u32 (v : Int) ∧ Hid (v = valB (bitD bs) i (j - i)) ∧ Hid (Below w1.heap.size w1 wr)) (fun _ vi _ => i + cnt - (intOf vi).toNat)
    case atStart => exact ⟨i, 0, Nat.le_refl _, Nat.le_add_right _ _, rfl, rfl, Lib.hid (by rw [Nat.sub_self]; rfl), Lib.hid (Below.refl _ _)⟩
    case round =>
      obtain ⟨j, v, hij, hj, rfl, rfl, HV, HB⟩ := hrel
      have hr := R1.out.below HB.out R1.out.lt
      by_cases hlt : j < i + cnt
      · have d1 : decide ((j : Int) < (i : Int) + (cnt : Int)) = true := decide_eq_true (by omega)
        have d1' : decide (j < i + cnt) = true := decide_eq_true hlt
        have hjN : j < N := by omega
        have hv31 : v < 2147483648 := by rw [HV.out]; exact Nat.lt_of_lt_of_eq (valB_le (m := 31) (by omega)) (by decide)
        have k3 : wr.cell? ⟨w.heap.size, 0, none⟩ = some (.slice A n c) := hr.cell rfl
        have k4 : wr.cell? ⟨w.heap.size, 1, none⟩ = some (.int .i64 (N : Int)) := hr.cell rfl
        have HG := Lib.hid (HGT.out j wr (HX.out.below (HB1.out.trans (HB.out.mono HB1.out.size))) hjN)
        have hbl := b01_le (bitD bs j)
        have HV2 : Hid (2 * v + b01 (bitD bs j) = valB (bitD bs) i (j + 1 - i)) := by
          show _ = _
          rw [show j + 1 - i = (j - i) + 1 by omega, valB, HV.out, show i + (j - i) = j by omega]
        obtain ⟨b, hb⟩ : ∃ b, b = b01 (bitD bs j) := ⟨_, rfl⟩
        rw [← hb] at HG hbl HV2
        clear hr hb
        go_wp2_with fail
        refine HG.out.mono ?_
        rintro e w2 ⟨rfl, hb2⟩
        have HB2 := Lib.hid (HB.out.trans (hb2.mono HB.out.size))
        clear hb2
        go_wp2_with fail
        go_roundw
        case rel => exact ⟨j + 1, 2 * v + b, by omega, by omega, by go_num, by go_num, HV2, HB2⟩
        case measure => (simp [intOf]) <;> omega
      · obtain rfl : j = i + cnt := by omega
        have d1 : decide (((i + cnt : Nat) : Int) < (i : Int) + (cnt : Int)) = false := decide_eq_false (by omega)
        have HV2 : Hid (valB (bitD bs) i cnt = v) := by show _ = _; have h := HV.out; rw [show i + cnt - i = cnt by omega] at h; exact h.symm
        clear hr
        go_wp2_with fail
        go_ret2
        rw [HV2.out]
        exact ⟨rfl, HB1.out.trans (HB.out.mono HB1.out.size)⟩
theorem zB_stop {g : Nat → Bool} {N i : Nat} (h : ¬ (i < N ∧ g i = false)) : zB g N i = 0 := by rw [zB, dif_neg h]
theorem zB_more {g : Nat → Bool} {N i : Nat} (h : i < N ∧ g i = false) : zB g N i = zB g N (i + 1) + 1 := by rw [zB, dif_pos h]
theorem readGamma01_any (A : Option Addr) (n c i : Nat) (bs : List UInt8) (w : World) (hx : Bytes w A n c bs) (hn : n ≤ 65536) (hi : i ≤ 8 * n) :
    Calls Tryz.prog 274 #[.agg #[.slice A n c, .int .i64 ((8 * n : Nat) : Int)], .int .i64 (i : Int)] w fun e w' => e = .returned (.tuple #[.int .i64 (((rgR (bitD bs) (8 * n) i).1 : Nat) : Int), .int .i64 (((rgR (bitD bs) (8 * n) i).2.1 : Nat) : Int), .int .i64 (rgR (bitD bs) (8 * n) i).2.2]) ∧ Below w.heap.size w w' := by
  obtain ⟨w0, hw0⟩ : ∃ w0, w0 = w.alloc (.cells #[.slice A n c, .int .i64 ((8 * n : Nat) : Int)] 184) := ⟨_, rfl⟩
  have r0 : rowV w0 w.heap.size 184 #[.slice A n c, .int .i64 ((8 * n : Nat) : Int)] := by rw [hw0]; exact rowV.new w _ _
  have hb0 : Below w.heap.size w w0 := by rw [hw0]; exact balloc (Below.refl _ _) _
  have HCH := Lib.hid (chk01_any A n c w0 hn)
  have HX := Lib.hid hx
  have HGT := Lib.hid (fun j W hW hj => get01_any A n c j bs W hW hn hj)
  have HRD := Lib.hid (fun i cnt W hW hc hi => read01_any A n c i cnt bs W hW hn hc hi)
  have HN8 : Hid (8 * n ≤ 524288) := by unfold Hid; omega
  obtain ⟨N, hN⟩ : ∃ N, N = 8 * n := ⟨_, rfl⟩
  rw [← hN] at hw0 r0 HCH HN8 HGT HRD hi ⊢
  have hN8 := HN8.out
  have HN := Lib.hid hN
  have HW0 := Lib.hid hw0
  have HB0 := Lib.hid hb0
  have R0 := Lib.hid r0
  have e2 : decide ((i : Int) < 0) = false := decide_eq_false (by omega)
  clear hN hw0 hb0 r0 hx
  have k0 : w0.cell? ⟨w.heap.size, 0, none⟩ = some (.slice A n c) := R0.out.cell rfl
  have k1 : w0.cell? ⟨w.heap.size, 1, none⟩ = some (.int .i64 (N : Int)) := R0.out.cell rfl
  rw [HW0.out] at k0 k1
  obtain ⟨P, hP⟩ : ∃ P, P = rgR (bitD bs) N i := ⟨_, rfl⟩
  rw [← hP]
  have HP := Lib.hid hP
  clear hP
  go_enter Tryz.func274, Tryz.ntmps274
  go_wp2_with fail
  rw [← HW0.out]
  refine HCH.out.mono ?_
  rintro e w1 ⟨rfl, hb1⟩
  have r1 := R0.out.below hb1 R0.out.lt
  have R1 := Lib.hid r1
  have HB1 := Lib.hid (HB0.out.trans (hb1.mono HB0.out.size))
  clear r1 hb1 k0 k1
  go_wp2_with fail
  go_loopw [8] (fun vk wr => ∃ k : Nat, i + k ≤ N ∧ vk = .int .i64 (k : Int) ∧ Hid (zB (bitD bs) N i = k + zB (bitD bs) N (i + k)) ∧ Hid (Below w1.heap.size w1 wr)) (fun vk _ => N - (intOf vk).toNat)
  case atStart => exact ⟨0, hi, rfl, Lib.hid (Nat.zero_add _).symm, Lib.hid (Below.refl _ _)⟩
  case round =>
    obtain ⟨k, hk, rfl, HZ, HB⟩ := hrel
    have hr := R1.out.below HB.out R1.out.lt
    have k3 : wr.cell? ⟨w.heap.size, 0, none⟩ = some (.slice A n c) := hr.cell rfl
    have k4 : wr.cell? ⟨w.heap.size, 1, none⟩ = some (.int .i64 (N : Int)) := hr.cell rfl
    have HWB := Lib.hid (HB1.out.trans (HB.out.mono HB1.out.size))
    clear hr
    by_cases hlt : i + k < N
    · have d1 : decide ((i : Int) + (k : Int) < (N : Int)) = true := decide_eq_true (by omega)
      have d1' : decide (i + k < N) = true := decide_eq_true hlt
      have HG := Lib.hid (HGT.out (i + k) wr (HX.out.below HWB.out) hlt)
      have hij : ((i + k : Nat) : Int) = (i : Int) + (k : Int) := by omega
      rw [hij] at HG
      clear hij
      obtain ⟨bv, hbv⟩ : ∃ b, b = bitD bs (i + k) := ⟨_, rfl⟩
      rw [← hbv] at HG
      cases bv with
      | false =>
        have HZ2 : Hid (zB (bitD bs) N i = (k + 1) + zB (bitD bs) N (i + (k + 1))) := by
          show _ = _
          rw [HZ.out, zB_more ⟨hlt, hbv.symm⟩]
          show _ = k + 1 + zB (bitD bs) N (i + k + 1)
          omega
        clear hbv
        go_wp2_with fail
        refine HG.out.mono ?_
        rintro e w2 ⟨rfl, hb2⟩
        have HB2 := Lib.hid (HB.out.trans (hb2.mono HB.out.size))
        clear hb2
        go_wp2_with fail
        go_roundw
        case rel => exact ⟨k + 1, hlt, by go_num, HZ2, HB2⟩
        case measure => (simp [intOf]) <;> omega
      | true =>
        have hzk : zB (bitD bs) N i = k := by
          have h := HZ.out
          have h0 : zB (bitD bs) N (i + k) = 0 := zB_stop (fun h => by have h2 := h.2; rw [← hbv] at h2; cases h2)
          rw [h0] at h
          exact h
        have d2 : decide ((N : Int) ≤ (i : Int)) = false := decide_eq_false (by omega)
        have d2' : decide (N ≤ i) = false := decide_eq_false (by omega)
        have d3 : decide ((N : Int) ≤ (i : Int) + (k : Int)) = false := decide_eq_false (by omega)
        have d3' : decide (N ≤ i + k) = false := decide_eq_false (by omega)
        have hng : ¬ N ≤ i + zB (bitD bs) N i := by rw [hzk]; omega
        by_cases h30 : 30 < k
        · have d4 : decide ((30 : Int) < (k : Int)) = true := decide_eq_true (by omega)
          have d4' : decide (30 < k) = true := decide_eq_true h30
          have HR : Hid (P = (0, 0, 2)) := by show _ = _; rw [HP.out]; exact rg_many hng (by rw [hzk]; exact h30)
          clear hbv hzk hng h30
          go_wp2_with fail
          refine HG.out.mono ?_
          rintro e w2 ⟨rfl, hb2⟩
          have r2 := R1.out.below (HB.out.trans (hb2.mono HB.out.size)) R1.out.lt
          have k5 : w2.cell? ⟨w.heap.size, 1, none⟩ = some (.int .i64 (N : Int)) := r2.cell rfl
          have HB2 := Lib.hid (HB1.out.trans ((HB.out.trans (hb2.mono HB.out.size)).mono HB1.out.size))
          clear hb2 r2
          go_wp2_with fail
          go_ret3
          rw [HR.out]
          exact ⟨rfl, HB2.out⟩
        · have d4 : decide ((30 : Int) < (k : Int)) = false := decide_eq_false (by omega)
          have d4' : decide (30 < k) = false := decide_eq_false h30
          have HR : Hid (P = if N < i + k + (k + 1) then (0, 0, 9) else (valB (bitD bs) (i + k) (k + 1), i + 2 * k + 1, 0)) := by
            show _ = _
            have h := rg_read hng (by rw [hzk]; exact h30)
            rw [hzk] at h
            rw [HP.out]; exact h
          have HRR := Lib.hid (fun W (hW : Bytes W A n c bs) => HRD.out (i + k) (k + 1) W hW (by omega) (by omega))
          have e5 : ((i + k : Nat) : Int) = (i : Int) + (k : Int) := by omega
          have e6 : ((k + 1 : Nat) : Int) = (k : Int) + 1 := by omega
          rw [e5, e6] at HRR
          by_cases hbig : N < i + k + (k + 1)
          · have hv : rdV (bitD bs) N (i + k) (k + 1) = 0 := if_pos hbig
            have he : rdE N (i + k) (k + 1) = 9 := if_pos hbig
            rw [hv, he] at HRR
            have HR2 : Hid (P = (0, 0, 9)) := by show _ = _; rw [HR.out, if_pos hbig]
            clear hbv hzk hng h30 hbig hv he e5 e6 HR
            go_wp2_with fail
            refine HG.out.mono ?_
            rintro e w2 ⟨rfl, hb2⟩
            have r2 := R1.out.below (HB.out.trans (hb2.mono HB.out.size)) R1.out.lt
            have k5 : w2.cell? ⟨w.heap.size, 1, none⟩ = some (.int .i64 (N : Int)) := r2.cell rfl
            have k6 : w2.cell? ⟨w.heap.size, 0, none⟩ = some (.slice A n c) := r2.cell rfl
            have HB2 := Lib.hid (HB1.out.trans ((HB.out.trans (hb2.mono HB.out.size)).mono HB1.out.size))
            clear hb2 r2
            go_wp2_with fail
            refine (HRR.out w2 (HX.out.below HB2.out)).mono ?_
            rintro e w3 ⟨rfl, hb3⟩
            have HB3 := Lib.hid (HB2.out.trans (hb3.mono HB2.out.size))
            clear hb3
            go_wp2_with fail
            go_ret3
            rw [HR2.out]
            exact ⟨rfl, HB3.out⟩
          · have hv : rdV (bitD bs) N (i + k) (k + 1) = valB (bitD bs) (i + k) (k + 1) := if_neg hbig
            have he : rdE N (i + k) (k + 1) = 0 := if_neg hbig
            have hvl : valB (bitD bs) (i + k) (k + 1) < 2147483648 := Nat.lt_of_lt_of_eq (valB_le (m := 31) (by omega)) (by decide)
            rw [hv, he] at HRR
            have HR2 : Hid (P = (valB (bitD bs) (i + k) (k + 1), i + 2 * k + 1, 0)) := by show _ = _; rw [HR.out, if_neg hbig]
            obtain ⟨V, hV⟩ : ∃ V, V = valB (bitD bs) (i + k) (k + 1) := ⟨_, rfl⟩
            rw [← hV] at HRR HR2 hvl
            clear hbv hzk hng h30 hbig hv he e5 e6 HR hV
            go_wp2_with fail
            refine HG.out.mono ?_
            rintro e w2 ⟨rfl, hb2⟩
            have r2 := R1.out.below (HB.out.trans (hb2.mono HB.out.size)) R1.out.lt
            have k5 : w2.cell? ⟨w.heap.size, 1, none⟩ = some (.int .i64 (N : Int)) := r2.cell rfl
            have k6 : w2.cell? ⟨w.heap.size, 0, none⟩ = some (.slice A n c) := r2.cell rfl
            have HB2 := Lib.hid (HB1.out.trans ((HB.out.trans (hb2.mono HB.out.size)).mono HB1.out.size))
            clear hb2 r2
            go_wp2_with fail
            refine (HRR.out w2 (HX.out.below HB2.out)).mono ?_
            rintro e w3 ⟨rfl, hb3⟩
            have HB3 := Lib.hid (HB2.out.trans (hb3.mono HB2.out.size))
            clear hb3
            go_wp2_with fail
            go_ret3
            rw [HR2.out]
            exact ⟨by show _ = Ending.returned (.tuple #[.int .i64 (V : Int), .int .i64 ((i + 2 * k + 1 : Nat) : Int), .int .i64 0]); go_num, HB3.out⟩
    · have d1 : decide ((i : Int) + (k : Int) < (N : Int)) = false := decide_eq_false (by omega)
      have d1' : decide (i + k < N) = false := decide_eq_false hlt
      have hz0 : N ≤ i + zB (bitD bs) N i := by have := HZ.out; omega
      have HR : Hid (P = (0, 0, 9)) := by show _ = _; rw [HP.out]; exact rg_torn hz0
      have d3 : decide ((N : Int) ≤ (i : Int) + (k : Int)) = true := decide_eq_true (by omega)
      have d3' : decide (N ≤ i + k) = true := decide_eq_true (by omega)
      clear hz0
      by_cases hiN : N ≤ i
      · have d2 : decide ((N : Int) ≤ (i : Int)) = true := decide_eq_true (by omega)
        have d2' : decide (N ≤ i) = true := decide_eq_true hiN
        clear hiN
        go_wp2_with fail
        go_ret3
        rw [HR.out]
        exact ⟨rfl, HWB.out⟩
      · have d2 : decide ((N : Int) ≤ (i : Int)) = false := decide_eq_false (by omega)
        have d2' : decide (N ≤ i) = false := decide_eq_false hiN
        clear hiN
        go_wp2_with fail
        go_ret3
        rw [HR.out]
        exact ⟨rfl, HWB.out⟩
end Go.Proofs.YtohadkmaemmfgaaGreatDoor
namespace Go.Proofs.YtohadkmaemmfgaaGreatDoor
open Go.RowKit Go.Proofs
set_option linter.unusedVariables false
set_option linter.unusedSimpArgs false
theorem wrong35_any (t : Tok) (w : World) (ht : TokLim t) : Calls Tryz.prog 236 #[.agg (tokV t)] w fun e w' => e = .returned (.bool (!rightT t)) ∧ Below w.heap.size w w' := by
  obtain ⟨t1, t2⟩ := ht
  obtain ⟨k0, k1, k2⟩ := tok_cells t w
  have hb := balloc (Below.refl w.heap.size w) (.cells (tokV t) 180)
  obtain ⟨l, d, b⟩ := t
  unfold tokV at k0 k1 k2 hb ⊢
  dsimp only at t1 t2 k0 k1 k2 hb ⊢
  have HB := Lib.hid hb
  by_cases h0 : l = 0
  · have q0 : ((l : Int) == 0) = true := by simp [h0]
    have q1 : ((d : Int) == 0) = decide (d = 0) := by by_cases h : d = 0 <;> simp [h]
    have HR : Hid (rightT ⟨l, d, b⟩ = decide (d = 0)) := by show _ = _; simp [rightT, h0]
    rw [HR.out]
    obtain ⟨y, hy⟩ : ∃ y, y = decide (d = 0) := ⟨_, rfl⟩
    rw [← hy] at q1 ⊢
    have Q1 := Lib.hid q1
    clear h0 hb hy HR q1
    go_enter Tryz.func236, Tryz.ntmps236
    go_wp2_with fail
    go_ret
    refine ⟨?_, HB.out⟩
    show Ending.returned (.bool ((d : Int) != 0)) = _
    rw [bne, Q1.out]
  · have q0 : ((l : Int) == 0) = false := by simp [h0]
    have p0 := u8_beq b 0 0 rfl
    have HR : Hid (rightT ⟨l, d, b⟩ = decide (b = 0 ∧ 2 ≤ l ∧ l ≤ 255 ∧ 1 ≤ d ∧ d ≤ 4096)) := by show _ = _; simp [rightT, h0]
    clear h0 hb
    by_cases h1 : b = 0
    · have p1 : ((b.toNat : Int) != 0) = false := by rw [bne, p0, decide_eq_true h1]; rfl
      clear p0
      by_cases h2 : 2 ≤ l
      · have x1 : decide ((l : Int) < 2) = false := decide_eq_false (by omega)
        have y1 : decide (l < 2) = false := decide_eq_false (by omega)
        by_cases h3 : l ≤ 255
        · have x2 : decide ((255 : Int) < (l : Int)) = false := decide_eq_false (by omega)
          have y2 : decide (255 < l) = false := decide_eq_false (by omega)
          by_cases h4 : 1 ≤ d
          · have x3 : decide ((d : Int) < 1) = false := decide_eq_false (by omega)
            have y3 : decide (d < 1) = false := decide_eq_false (by omega)
            by_cases h5 : d ≤ 4096
            · have x4 : decide ((4096 : Int) < (d : Int)) = false := decide_eq_false (by omega)
              have y4 : decide (4096 < d) = false := decide_eq_false (by omega)
              have HR2 : Hid (rightT ⟨l, d, b⟩ = true) := by show _ = _; rw [HR.out]; exact decide_eq_true ⟨h1, h2, h3, h4, h5⟩
              rw [HR2.out]
              clear h1 h2 h3 h4 h5 HR
              go_enter Tryz.func236, Tryz.ntmps236
              go_wp2_with fail
              go_ret
              exact ⟨rfl, HB.out⟩
            · have x4 : decide ((4096 : Int) < (d : Int)) = true := decide_eq_true (by omega)
              have y4 : decide (4096 < d) = true := decide_eq_true (by omega)
              have HR2 : Hid (rightT ⟨l, d, b⟩ = false) := by show _ = _; rw [HR.out]; exact decide_eq_false (fun h => h5 h.2.2.2.2)
              rw [HR2.out]
              clear h1 h2 h3 h4 h5 HR
              go_enter Tryz.func236, Tryz.ntmps236
              go_wp2_with fail
              go_ret
              exact ⟨rfl, HB.out⟩
          · have x3 : decide ((d : Int) < 1) = true := decide_eq_true (by omega)
            have y3 : decide (d < 1) = true := decide_eq_true (by omega)
            have HR2 : Hid (rightT ⟨l, d, b⟩ = false) := by show _ = _; rw [HR.out]; exact decide_eq_false (fun h => h4 h.2.2.2.1)
            rw [HR2.out]
            clear h1 h2 h3 h4 HR
            go_enter Tryz.func236, Tryz.ntmps236
            go_wp2_with fail
            go_ret
            exact ⟨rfl, HB.out⟩
        · have x2 : decide ((255 : Int) < (l : Int)) = true := decide_eq_true (by omega)
          have y2 : decide (255 < l) = true := decide_eq_true (by omega)
          have HR2 : Hid (rightT ⟨l, d, b⟩ = false) := by show _ = _; rw [HR.out]; exact decide_eq_false (fun h => h3 h.2.2.1)
          rw [HR2.out]
          clear h1 h2 h3 HR
          go_enter Tryz.func236, Tryz.ntmps236
          go_wp2_with fail
          go_ret
          exact ⟨rfl, HB.out⟩
      · have x1 : decide ((l : Int) < 2) = true := decide_eq_true (by omega)
        have y1 : decide (l < 2) = true := decide_eq_true (by omega)
        have HR2 : Hid (rightT ⟨l, d, b⟩ = false) := by show _ = _; rw [HR.out]; exact decide_eq_false (fun h => h2 h.2.1)
        rw [HR2.out]
        clear h1 h2 HR
        go_enter Tryz.func236, Tryz.ntmps236
        go_wp2_with fail
        go_ret
        exact ⟨rfl, HB.out⟩
    · have p1 : ((b.toNat : Int) != 0) = true := by rw [bne, p0, decide_eq_false h1]; rfl
      clear p0
      have HR2 : Hid (rightT ⟨l, d, b⟩ = false) := by show _ = _; rw [HR.out]; exact decide_eq_false (fun h => h1 h.1)
      rw [HR2.out]
      clear h1 HR
      go_enter Tryz.func236, Tryz.ntmps236
      go_wp2_with fail
      go_ret
      exact ⟨rfl, HB.out⟩
theorem size35_any (t : Tok) (w : World) (ht : TokLim t) : Calls Tryz.prog 183 #[.agg (tokV t)] w fun e w' => e = .returned (.int .i64 ((tsz t : Nat) : Int)) ∧ Below w.heap.size w w' := by
  obtain ⟨k0, -, -⟩ := tok_cells t w
  have HB := Lib.hid (balloc (Below.refl w.heap.size w) (.cells (tokV t) 180))
  obtain ⟨t1, -⟩ := ht
  have HS : Hid (((tsz t : Nat) : Int) = max (t.len : Int) 1) := by show _ = _; unfold tsz; omega
  rw [HS.out]
  unfold tokV at *
  go_enter Tryz.func183, Tryz.ntmps183
  go_wp2_with fail
  go_ret
  exact ⟨rfl, HB.out⟩
theorem token35_any (t : Tok) (before : Nat) (w : World) (ht : TokLim t) (hbf : before ≤ 1000000) : Calls Tryz.prog 182 #[.agg (tokV t), .int .i64 (before : Int)] w fun e w' => e = .returned (.int .i64 (chkT t before)) ∧ Below w.heap.size w w' := by
  obtain ⟨w1, hw1⟩ : ∃ w1, w1 = w.alloc (.cells (tokV t) 180) := ⟨_, rfl⟩
  have hb1 : Below w.heap.size w w1 := by rw [hw1]; exact balloc (Below.refl _ _) _
  have r1 : rowV w1 w.heap.size 180 (tokV t) := by rw [hw1]; exact rowV.new w _ _
  obtain ⟨k0, k1, k2⟩ := tok_cells t w
  have HR := wrong35_any t w1 ht
  have HB1 := Lib.hid hb1
  have R1 := Lib.hid r1
  have HW1 := Lib.hid hw1
  have hc : chkT t before = if rightT t = false then 3 else if before < t.dst then 2 else if 65536 < before + tsz t then 5 else 0 := rfl
  have HZ := Lib.hid (fun W => size35_any t W ht)
  obtain ⟨t1, t2⟩ := ht
  have hts : tsz t ≤ 1000001 := by unfold tsz; omega
  obtain ⟨sz, hsz⟩ : ∃ sz, sz = tsz t := ⟨_, rfl⟩
  rw [← hsz] at HZ hc hts
  clear hb1 r1 hw1 hsz
  cases hrt : rightT t with
  | false =>
    rw [hrt, if_pos rfl] at hc
    rw [hrt] at HR
    simp only [Bool.not_true, Bool.not_false] at HR
    replace HR := Lib.hid HR
    have HC := Lib.hid hc
    clear hc hrt
    unfold tokV at *
    go_enter Tryz.func182, Tryz.ntmps182
    go_wp2_with fail
    rw [← HW1.out]
    refine HR.out.mono ?_
    rintro e w2 ⟨rfl, hb2⟩
    have HB2 := Lib.hid (HB1.out.trans (hb2.mono HB1.out.size))
    clear hb2
    go_wp2_with fail
    go_ret
    rw [HC.out]
    exact ⟨rfl, HB2.out⟩
  | true =>
    rw [hrt, if_neg (by decide)] at hc
    rw [hrt] at HR
    simp only [Bool.not_true, Bool.not_false] at HR
    replace HR := Lib.hid HR
    by_cases h1 : before < t.dst
    · rw [if_pos h1] at hc
      have HC := Lib.hid hc
      have d1 : decide ((before : Int) < (t.dst : Int)) = true := decide_eq_true (by omega)
      have d1' : decide (before < t.dst) = true := decide_eq_true h1
      clear hc hrt h1
      unfold tokV at *
      go_enter Tryz.func182, Tryz.ntmps182
      go_wp2_with fail
      rw [← HW1.out]
      refine HR.out.mono ?_
      rintro e w2 ⟨rfl, hb2⟩
      have HB2 := Lib.hid (HB1.out.trans (hb2.mono HB1.out.size))
      have y1 : w2.cell? ⟨w.heap.size, 1, none⟩ = some (.int .i64 (t.dst : Int)) := (R1.out.below hb2 R1.out.lt).cell rfl
      clear hb2
      go_wp2_with fail
      go_ret
      rw [HC.out]
      exact ⟨rfl, HB2.out⟩
    · rw [if_neg h1] at hc
      have d1 : decide ((before : Int) < (t.dst : Int)) = false := decide_eq_false (by omega)
      have d1' : decide (before < t.dst) = false := decide_eq_false h1
      have fin : ∀ (bb : Bool) (v : Int), decide ((65536 : Int) < (before : Int) + (sz : Int)) = bb → chkT t before = v → v = (if bb then 5 else 0) → Calls Tryz.prog 182 #[.agg (tokV t), .int .i64 (before : Int)] w fun e w' => e = .returned (.int .i64 (chkT t before)) ∧ Below w.heap.size w w' := by
        intro bb v d2 hv hvb
        have d2' : decide (65536 < before + sz) = bb := by rw [← d2]; exact decide_eq_decide.2 (by omega)
        rw [hv]
        clear hc hrt h1 hv
        cases bb with
        | true =>
          obtain rfl : v = 5 := hvb
          unfold tokV at *
          go_enter Tryz.func182, Tryz.ntmps182
          go_wp2_with fail
          rw [← HW1.out]
          refine HR.out.mono ?_
          rintro e w2 ⟨rfl, hb2⟩
          have HB2 := Lib.hid (HB1.out.trans (hb2.mono HB1.out.size))
          have y0 : w2.cell? ⟨w.heap.size, 0, none⟩ = some (.int .i64 (t.len : Int)) := (R1.out.below hb2 R1.out.lt).cell rfl
          have y1 : w2.cell? ⟨w.heap.size, 1, none⟩ = some (.int .i64 (t.dst : Int)) := (R1.out.below hb2 R1.out.lt).cell rfl
          have y2 : w2.cell? ⟨w.heap.size, 2, none⟩ = some (.int .u8 (t.byt.toNat : Int)) := (R1.out.below hb2 R1.out.lt).cell rfl
          clear hb2
          go_wp2_with fail
          refine (HZ.out w2).mono ?_
          rintro e w3 ⟨rfl, hb3⟩
          have HB3 := Lib.hid (HB2.out.trans (hb3.mono HB2.out.size))
          clear hb3
          go_wp2_with fail
          go_ret
          exact ⟨rfl, HB3.out⟩
        | false =>
          obtain rfl : v = 0 := hvb
          unfold tokV at *
          go_enter Tryz.func182, Tryz.ntmps182
          go_wp2_with fail
          rw [← HW1.out]
          refine HR.out.mono ?_
          rintro e w2 ⟨rfl, hb2⟩
          have HB2 := Lib.hid (HB1.out.trans (hb2.mono HB1.out.size))
          have y0 : w2.cell? ⟨w.heap.size, 0, none⟩ = some (.int .i64 (t.len : Int)) := (R1.out.below hb2 R1.out.lt).cell rfl
          have y1 : w2.cell? ⟨w.heap.size, 1, none⟩ = some (.int .i64 (t.dst : Int)) := (R1.out.below hb2 R1.out.lt).cell rfl
          have y2 : w2.cell? ⟨w.heap.size, 2, none⟩ = some (.int .u8 (t.byt.toNat : Int)) := (R1.out.below hb2 R1.out.lt).cell rfl
          clear hb2
          go_wp2_with fail
          refine (HZ.out w2).mono ?_
          rintro e w3 ⟨rfl, hb3⟩
          have HB3 := Lib.hid (HB2.out.trans (hb3.mono HB2.out.size))
          clear hb3
          go_wp2_with fail
          go_ret
          exact ⟨rfl, HB3.out⟩
      by_cases h2 : 65536 < before + sz
      · rw [if_pos h2] at hc
        exact fin true 5 (decide_eq_true (by omega)) hc rfl
      · rw [if_neg h2] at hc
        exact fin false 0 (decide_eq_false (by omega)) hc rfl
theorem Toks.cellsAt {w : World} {b off n c i : Nat} {l : List Tok} (h : Toks w (some ⟨b, off, none⟩) n c l) (hi : i < n) : w.cell? ⟨b, off + i * 3, none⟩ = some (.int .i64 ((tG l i).len : Int)) ∧ w.cell? ⟨b, off + i * 3 + 1, none⟩ = some (.int .i64 ((tG l i).dst : Int)) ∧ w.cell? ⟨b, off + i * 3 + 2, none⟩ = some (.int .u8 ((tG l i).byt.toNat : Int)) := by
  obtain ⟨b', off', e, -, hc⟩ := h.2.2 (by omega)
  injection e with e
  injection e with e1 e2
  subst e1 e2
  exact hc i hi
theorem check35_any (A : Option Addr) (n c : Nat) (l : List Tok) (w : World) (hx : Toks w A n c l) (hl : ∀ t ∈ l, TokLim t) (hn : n ≤ 1000000000) : Calls Tryz.prog 184 #[.slice A n c] w fun e w' => e = .returned (.int .i64 (chkL l)) ∧ Below w.heap.size w w' := by
  have hln := hx.1
  by_cases h6 : 65536 < n
  · have HC : Hid (chkL l = 6) := by show _ = _; unfold chkL; rw [hln, if_pos h6]
    have d0 : decide ((65536 : Int) < (n : Int)) = true := decide_eq_true (by omega)
    have d0' : decide (65536 < n) = true := decide_eq_true h6
    clear h6 hx
    go_enter Tryz.func184, Tryz.ntmps184
    go_wp2_with fail
    go_ret
    rw [HC.out]
    exact ⟨rfl, Below.refl _ _⟩
  · have HC : Hid (chkL l = chkF l 0) := by show _ = _; unfold chkL; rw [hln, if_neg h6]
    have d0 : decide ((65536 : Int) < (n : Int)) = false := decide_eq_false (by omega)
    have d0' : decide (65536 < n) = false := decide_eq_false h6
    have HX := Lib.hid hx
    have HL := Lib.hid hl
    rw [HC.out]
    clear h6 hx hl HC
    go_enter Tryz.func184, Tryz.ntmps184
    go_wp2_with fail
    go_loopw [3, 4, 5] (fun nn i _ wr => ∃ k m : Nat, k ≤ n ∧ i = .int .i64 (k : Int) ∧ nn = .int .i64 (m : Int) ∧ m ≤ 65536 ∧ Hid (chkF (l.drop k) m = chkF l 0 ∧ Below w.heap.size w wr)) (fun _ i _ _ => n - (intOf i).toNat)
    case atStart => exact ⟨0, 0, Nat.zero_le _, rfl, rfl, Nat.zero_le _, Lib.hid ⟨rfl, Below.refl _ _⟩⟩
    case round =>
      obtain ⟨k, m, hk, rfl, rfl, hm, HI⟩ := hrel
      by_cases hlt : k < n
      · have d1 : decide ((k : Int) < (n : Int)) = true := decide_eq_true (by omega)
        have d1' : decide (k < n) = true := decide_eq_true hlt
        obtain ⟨b, off, rfl, hbl, hcc⟩ := (HX.out.below HI.out.2 (Nat.le_refl _)).2.2 (by omega)
        obtain ⟨x0, x1, x2⟩ := hcc k hlt
        have hkl : k < l.length := by omega
        have hlim := HL.out _ (tG_mem hkl)
        have hd := HI.out.1
        rw [tdrop hkl, chkF] at hd
        obtain ⟨t, ht⟩ : ∃ t, t = tG l k := ⟨_, rfl⟩
        rw [← ht] at x0 x1 x2 hlim hd
        have HTT : Hid (tG l k = t) := ht.symm
        have HK := Lib.hid (token35_any t m wr hlim (by omega))
        have HZ := Lib.hid (fun W => size35_any t W hlim)
        have hts : tsz t ≤ 1000001 := by have := hlim.1; unfold tsz; omega
        have HXK := Lib.hid (fun W (h : Below w.heap.size w W) => (HX.out.below h (Nat.le_refl _)).cellsAt hlt)
        by_cases hc0 : chkT t m = 0
        · rw [if_pos hc0] at hd
          have hm2 : m + tsz t ≤ 65536 := by
            unfold chkT at hc0
            split at hc0
            · cases hc0
            · split at hc0
              · cases hc0
              · split at hc0
                · cases hc0
                · omega
          rw [hc0] at HK
          have HD := Lib.hid hd
          obtain ⟨sz, hsz⟩ : ∃ sz, sz = tsz t := ⟨_, rfl⟩
          rw [← hsz] at HZ HD hm2 hts
          clear hd hc0 hsz ht hlim hcc
          unfold tokV at HK
          go_wp2_with fail
          refine HK.out.mono ?_
          rintro e w3 ⟨rfl, hb3⟩
          have hB3 := HI.out.2.trans (hb3.mono HI.out.2.size)
          obtain ⟨v0, v1, v2⟩ := HXK.out w3 hB3
          rw [HTT.out] at v0 v1 v2
          have HB3 := Lib.hid hB3
          clear hb3 hB3 x0 x1 x2
          unfold tokV at HZ
          go_wp2_with fail
          refine (HZ.out w3).mono ?_
          rintro e w4 ⟨rfl, hb4⟩
          have HB4 := Lib.hid (HB3.out.trans (hb4.mono HB3.out.size))
          clear hb4
          go_wp2_with fail
          go_roundw
          case rel => exact ⟨k + 1, m + sz, by omega, by go_num, by go_num, hm2, Lib.hid ⟨HD.out, HB4.out⟩⟩
          case measure => (simp [intOf]) <;> omega
        · rw [if_neg hc0] at hd
          have q0 : (chkT t m == 0) = false := by simpa using hc0
          obtain ⟨er, her⟩ : ∃ er, er = chkT t m := ⟨_, rfl⟩
          rw [← her] at HK hd q0 hc0
          have HD := Lib.hid hd
          clear hd ht hlim hcc her hts
          unfold tokV at HK
          go_wp2_with fail
          refine HK.out.mono ?_
          rintro e w3 ⟨rfl, hb3⟩
          have HB3 := Lib.hid (HI.out.2.trans (hb3.mono HI.out.2.size))
          clear hb3
          go_wp2_with fail
          go_ret
          rw [← HD.out]
          exact ⟨rfl, HB3.out⟩
      · obtain rfl : n = k := by omega
        have d1 : decide ((n : Int) < (n : Int)) = false := by simp
        have HD : Hid (chkF l 0 = 0) := by show _ = _; rw [← HI.out.1, List.drop_of_length_le (by omega)]; rfl
        go_wp2_with fail
        go_ret
        rw [HD.out]
        exact ⟨rfl, HI.out.2⟩
theorem expand35_any (A : Option Addr) (n c : Nat) (l : List Tok) (w : World) (hx : Toks w A n c l) (hl : ∀ t ∈ l, TokLim t) (hn : n ≤ 1000000000) : Calls Tryz.prog 113 #[.slice A n c] w (RetBytes w (expandT l).1 (expandT l).2) := by
  have hln := hx.1
  have HCH := check35_any A n c l w hx hl hn
  by_cases h0 : chkL l = 0
  · have HE : Hid (expandT l = (expF l [], 0)) := by show _ = _; unfold expandT; rw [if_pos h0]
    have hn6 : n ≤ 65536 := by
      unfold chkL at h0
      split at h0
      · cases h0
      · omega
    have hF : chkF l 0 = 0 := by unfold chkL at h0; rw [if_neg (by omega)] at h0; exact h0
    rw [h0] at HCH
    replace HCH := Lib.hid HCH
    have HX := Lib.hid hx
    have HL := Lib.hid hl
    have HF := Lib.hid hF
    clear h0 hx hl hF
    go_enter Tryz.func113, Tryz.ntmps113
    go_wp2_with fail
    refine HCH.out.mono ?_
    rintro e w1 ⟨rfl, hb1⟩
    have HB1 := Lib.hid hb1
    clear hb1
    go_wp2_with fail
    go_loopw [5, 6, 7] (fun vo vi _ wr => ∃ (k m c2 : Nat) (A2 : Option Addr) (xs : List UInt8), k ≤ n ∧ m ≤ 65536 ∧ vi = .int .i64 (k : Int) ∧ vo = .slice A2 m c2 ∧ Hid (Own encB wr w.heap.size 5 A2 m c2 xs ∧ Below w.heap.size w wr ∧ chkF (l.drop k) m = 0 ∧ expF (l.drop k) xs = expF l [])) (fun _ vi _ _ => n - (intOf vi).toNat)
    case atStart => exact ⟨0, 0, 0, none, [], Nat.zero_le _, Nat.zero_le _, rfl, rfl, Lib.hid ⟨Own.nil _ _ _ _, HB1.out, HF.out, rfl⟩⟩
    case round =>
      obtain ⟨k, m, c2, A2, xs, hk, hm, rfl, rfl, HI⟩ := hrel
      have HML := Lib.hid HI.out.1.length
      by_cases hlt : k < n
      · have d1 : decide ((k : Int) < (n : Int)) = true := decide_eq_true (by omega)
        have d1' : decide (k < n) = true := decide_eq_true hlt
        obtain ⟨b, off, rfl, hbl, hcc⟩ := (HX.out.below HI.out.2.1 (Nat.le_refl _)).2.2 (by omega)
        obtain ⟨x0, x1, x2⟩ := hcc k hlt
        have hkl : k < l.length := by omega
        have hlim := HL.out _ (tG_mem hkl)
        have hd := HI.out.2.2.1
        have he := HI.out.2.2.2
        rw [tdrop hkl, chkF] at hd
        rw [tdrop hkl, expF_cons] at he
        obtain ⟨t, ht⟩ : ∃ t, t = tG l k := ⟨_, rfl⟩
        rw [← ht] at x0 x1 x2 hlim hd he
        have hc0 : chkT t m = 0 := by
          by_cases h : chkT t m = 0
          · exact h
          · rw [if_neg h] at hd; exact absurd hd h
        rw [if_pos hc0] at hd
        obtain ⟨hrt, hdm, hms⟩ := chkT_zero hc0
        have HXK := Lib.hid (fun W (h : Below w.heap.size w W) => (HX.out.below h (Nat.le_refl _)).cellsAt hlt)
        have HTT : Hid (tG l k = t) := ht.symm
        rw [HTT.out] at HXK
        have HA : Hid (Own encB wr w.heap.size 5 A2 m c2 xs ∧ Below w.heap.size w wr) := ⟨HI.out.1, HI.out.2.1⟩
        have HD := Lib.hid hd
        have HEX := Lib.hid he
        clear hd he ht hbl hcc hkl HI
        by_cases hl0 : t.len = 0
        · have q0 : ((t.len : Int) == 0) = true := by simp [hl0]
          have HT : Hid (oneT t xs = xs ++ [t.byt] ∧ tsz t = 1) := ⟨by unfold oneT; rw [if_pos hl0], by unfold tsz; rw [hl0]; rfl⟩
          have m1 : Hid (m + 1 ≤ maxLen ∧ m + 1 ≤ 140737488355328) := ⟨by simp [maxLen]; omega, by omega⟩
          have hms1 : m + 1 ≤ 65536 := by rw [HT.out.2] at hms; exact hms
          clear hl0 hms
          have hl0i : (t.len : Int) = 0 := by simpa using q0
          go_wp2_with (at_builtin; refine wpList_pushg rfl (.tmp 25) (.tmp 31) rfl uB infoB rfl HA.out.1 HA.out.2.size t.byt _ rfl rfl m1.out.1 m1.out.2 ?_; intro A6 c6 W6 ho6 hb6 hg6)
          have HF6 : Hid (Own encB W6 w.heap.size 5 A6 (m + 1) c6 (xs ++ [t.byt]) ∧ Below w.heap.size w W6 ∧ chkF (l.drop (k + 1)) (m + 1) = 0 ∧ expF (l.drop (k + 1)) (xs ++ [t.byt]) = expF l []) := ⟨ho6, HA.out.2.trans hb6, by have h := HD.out; rw [HT.out.2] at h; exact h, by have h := HEX.out; rw [HT.out.1] at h; exact h⟩
          clear ho6 hb6 hg6
          go_wp2_with fail
          go_loopw [5, 7] (fun vo vj wq => vj = .int .i64 0 ∧ vo = .slice A6 (m + 1) c6 ∧ Hid (wq = W6)) (fun _ _ _ => 0)
          case atStart => exact ⟨rfl, rfl, Lib.hid rfl⟩
          case round =>
            clear x0 x1 x2
            obtain ⟨rfl, rfl, HW⟩ := hrel
            obtain rfl := HW.out
            obtain ⟨x0, x1, x2⟩ := HXK.out _ HF6.out.2.1
            have e1 : decide ((0 : Int) < (t.len : Int)) = false := decide_eq_false (by omega)
            go_wp2_with fail
            go_roundw
            case rel => exact ⟨k + 1, m + 1, c6, A6, xs ++ [t.byt], by omega, hms1, by go_num, rfl, HF6⟩
            case measure => (simp [intOf]) <;> omega
        · have q0 : ((t.len : Int) == 0) = false := by simpa using hl0
          obtain ⟨hlen, hds1, hds2⟩ := rightT_copy hrt hl0
          have HT : Hid (oneT t xs = copyN t.dst t.len xs ∧ tsz t = t.len) := ⟨by unfold oneT; rw [if_neg hl0], by unfold tsz; omega⟩
          have hms1 : m + t.len ≤ 65536 := by rw [HT.out.2] at hms; exact hms
          clear hl0 hms hrt
          go_wp2_with fail
          go_loopw [5, 7] (fun vo vj wq => ∃ (j m2 c3 : Nat) (A3 : Option Addr) (ys : List UInt8), j ≤ t.len ∧ m2 = m + j ∧ vj = .int .i64 (j : Int) ∧ vo = .slice A3 m2 c3 ∧ Hid (Own encB wq w.heap.size 5 A3 m2 c3 ys ∧ ys = copyN t.dst j xs ∧ Below w.heap.size w wq)) (fun _ vj _ => t.len - (intOf vj).toNat)
          case atStart => exact ⟨0, m, c2, A2, xs, Nat.zero_le _, rfl, rfl, rfl, Lib.hid ⟨HA.out.1, rfl, HA.out.2⟩⟩
          case round =>
            clear x0 x1 x2
            obtain ⟨j, m2, c3, A3, ys, hj, hm2, rfl, rfl, HJ⟩ := hrel
            obtain ⟨x0, x1, x2⟩ := HXK.out _ HJ.out.2.2
            by_cases hjl : j < t.len
            · have e1 : decide ((j : Int) < (t.len : Int)) = true := decide_eq_true (by omega)
              have e1' : decide (j < t.len) = true := decide_eq_true hjl
              obtain ⟨p, hp⟩ : ∃ p, p = m2 - t.dst := ⟨_, rfl⟩
              have hpm : p < m2 := by omega
              have hpi : (m2 : Int) - (t.dst : Int) = (p : Int) := by omega
              obtain ⟨b3, off3, hA3, -, hc3⟩ := HJ.out.1.bytesB.get hpm
              subst hA3
              have c3' : wr.cell? ⟨b3, off3 + p, none⟩ = some (.int .u8 ((bA ys p).toNat : Int)) := hc3 p hpm
              have m1 : Hid (m2 + 1 ≤ maxLen ∧ m2 + 1 ≤ 140737488355328) := ⟨by simp [maxLen]; omega, by omega⟩
              have hys : ys.length = m2 := HJ.out.1.length
              have HNX : Hid (ys ++ [bA ys p] = copyN t.dst (j + 1) xs) := by
                show _ = _
                have h1 := HJ.out.2.1
                rw [copyN_next, ← h1, hys, ← hp]
              have HBW := Lib.hid HJ.out.2.2.size
              have HOWN := Lib.hid HJ.out.1
              obtain ⟨yv, hyv⟩ : ∃ y, y = bA ys p := ⟨_, rfl⟩
              rw [← hyv] at c3' HNX
              have hy256 := yv.toNat_lt
              have hlm : m2 + 1 ≤ 65536 := by omega
              have HM2 := Lib.hid hm2
              clear hc3 hyv hys hp hm2
              go_wp2_with (at_builtin; refine wpList_pushg rfl (.tmp 42) (.tmp 54) rfl uB infoB rfl HOWN.out HBW.out yv _ rfl rfl m1.out.1 m1.out.2 ?_; intro A6 c6 W6 ho6 hb6 hg6)
              have HF6 : Hid (Own encB W6 w.heap.size 5 A6 (m2 + 1) c6 (ys ++ [yv]) ∧ ys ++ [yv] = copyN t.dst (j + 1) xs ∧ Below w.heap.size w W6) := ⟨ho6, HNX.out, HJ.out.2.2.trans hb6⟩
              clear ho6 hb6 hg6
              go_roundw
              case rel => exact ⟨j + 1, m2 + 1, c6, A6, _, by omega, by have := HM2.out; omega, by go_num, rfl, HF6⟩
              case measure => (simp [intOf]) <;> omega
            · have e1 : decide ((j : Int) < (t.len : Int)) = false := decide_eq_false (by omega)
              have e1' : decide (j < t.len) = false := decide_eq_false hjl
              obtain rfl : j = t.len := by omega
              have HF6 : Hid (Own encB wr w.heap.size 5 A3 m2 c3 ys ∧ Below w.heap.size w wr ∧ chkF (l.drop (k + 1)) m2 = 0 ∧ expF (l.drop (k + 1)) ys = expF l []) := ⟨HJ.out.1, HJ.out.2.2, by have h := HD.out; rw [HT.out.2, ← hm2] at h; exact h, by have h := HEX.out; rw [HT.out.1, ← HJ.out.2.1] at h; exact h⟩
              have hlm : m2 ≤ 65536 := by omega
              clear hm2
              go_wp2_with fail
              go_roundw
              case rel => exact ⟨k + 1, m2, c3, A3, ys, by omega, by omega, by go_num, rfl, HF6⟩
              case measure => (simp [intOf]) <;> omega
      · have d1 : decide ((k : Int) < (n : Int)) = false := decide_eq_false (by omega)
        have d1' : decide (k < n) = false := decide_eq_false hlt
        have hres : expF l [] = xs := by
          have h := HI.out.2.2.2
          rw [List.drop_of_length_le (by omega)] at h
          exact h.symm
        have HRES := Lib.hid hres
        clear hres
        go_wp2_with fail
        go_ret2
        rw [HE.out]
        exact RetBytes.mk rfl (by rw [HRES.out]; exact HI.out.1.bytesB) HI.out.2.1
  · have HE : Hid (expandT l = ([], chkL l)) := by show _ = _; unfold expandT; rw [if_neg h0]
    have q0 : (chkL l != 0) = true := by simpa using h0
    rw [HE.out]
    obtain ⟨er, her⟩ : ∃ er, er = chkL l := ⟨_, rfl⟩
    rw [← her] at HCH q0 ⊢
    replace HCH := Lib.hid HCH
    clear her h0 hx hl HE
    go_enter Tryz.func113, Tryz.ntmps113
    go_wp2_with fail
    refine HCH.out.mono ?_
    rintro e w1 ⟨rfl, hb1⟩
    have HB1 := Lib.hid hb1
    clear hb1
    go_wp2_with fail
    go_ret2
    exact RetBytes.err rfl HB1.out
end Go.Proofs.YtohadkmaemmfgaaGreatDoor
