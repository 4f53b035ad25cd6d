/- The reference of the assembler: Number, Name. (Printed by wip/mkhc.py.) -/
import Derived.Test.YtlbhggjkcfcobaaDoorHb
namespace Go.Proofs.YtlbhggjkcfcobaaDoor
open Go.RowKit Go.Proofs
set_option linter.unusedVariables false

theorem run_cutS_h2 (x : List UInt8) (hj : 2 ≤ x.length) (W : World) : (Instr.slice 9 (.string (strB x)) none (some (.int .i64 2)) none).run Tryd.prog W = .ok (.string (strB (x.take 2))) W := by
  rw [run_slice_string_h W 9 (strB x) uS .i64 (2 : Int) (by omega) (by rw [strB_size']; omega), strB_extract]
  simp
theorem run_cutS_l2 (x : List UInt8) (hj : 2 ≤ x.length) (W : World) : (Instr.slice 9 (.string (strB x)) (some (.int .i64 2)) none none).run Tryd.prog W = .ok (.string (strB (x.drop 2))) W := run_cutS_l x (i := 2) hj W
/-- what Number returns. -/
def NumP (o : Option Nat) (w : World) (e : Ending) (w' : World) : Prop := ∃ (x : Int) (ok : Bool), e = .returned (.tuple #[.int .i64 x, .bool ok]) ∧ ok = o.isSome ∧ (∀ n, o = some n → x = (n : Int)) ∧ w' = w
theorem NumP.none {o : Option Nat} {w : World} {x : Int} (h : o = .none) : NumP o w (.returned (.tuple #[.int .i64 x, .bool false])) w := ⟨x, false, rfl, by rw [h]; rfl, (fun n hn => by rw [h] at hn; cases hn), rfl⟩
theorem NumP.some {o : Option Nat} {w : World} {n : Nat} (h : o = .some n) : NumP o w (.returned (.tuple #[.int .i64 (n : Int), .bool true])) w := ⟨n, true, rfl, by rw [h]; rfl, (fun m hm => by rw [h] at hm; injection hm with hm; rw [hm]), rfl⟩
set_option maxRecDepth 100000 in
set_option maxHeartbeats 4000000 in
theorem numberW_any (s : List UInt8) (w : World) (hs : s.length ≤ 9000) : Calls Tryd.prog 106 #[.string (strB s)] w (NumP (numL s) w) := by
  have hsz : (strB s).size = s.length := strB_size' s
  have hT : ((strB (s.take 2)).toList == ([48, 120] : List UInt8)) = decide (s.take 2 = [48, 120]) := by rw [strB_toList]; exact beq_dec _ _
  by_cases h2 : 2 < s.length
  · have a1 : decide ((2 : Int) < (s.length : Int)) = true := by simp; omega
    have a1' : decide (2 < s.length) = true := by simp; omega
    have hc := run_cutS_h2 s (by omega)
    have hc2 := run_cutS_l2 s (by omega)
    by_cases hx : s.take 2 = [48, 120]
    · rw [decide_eq_true hx] at hT
      have HQ := Lib.hid (numLR_hex ⟨h2, hx⟩)
      have hts : (strB (s.drop 2)).size = (s.drop 2).length := strB_size' _
      have htl : (s.drop 2).length = s.length - 2 := List.length_drop
      obtain ⟨t, ht⟩ : ∃ t, t = s.drop 2 := ⟨_, rfl⟩
      rw [← ht] at hc2 HQ hts htl
      have HI := Lib.hid (fun k hk W => run_index_strB t (k := k) hk W)
      have HX := Lib.hid hx
      clear ht hx
      by_cases h8 : 8 < t.length
      · have a2 : decide ((8 : Int) < (t.length : Int)) = true := by simp; omega
        have a2' : decide (8 < t.length) = true := by simp; omega
        have HN := Lib.hid (HQ.out.trans (if_pos h8))
        clear HQ
        go_enter Tryd.func106, Tryd.ntmps106
        go_wp2_with fail
        go_ret2
        exact NumP.none HN.out
      · have a2 : decide ((8 : Int) < (t.length : Int)) = false := by simp; omega
        have a2' : decide (8 < t.length) = false := by simp; omega
        have a3 : decide ((t.length : Int) < 1) = false := by simp; omega
        have a3' : decide (t.length < 1) = false := decide_eq_false (by omega)
        have a4 : decide ((10 : Int) < (t.length : Int)) = false := by simp; omega
        have a4' : decide (10 < t.length) = false := by simp; omega
        have HQ := Lib.hid (HQ.out.trans (if_neg h8))
        have HLT : Hid (t.length ≤ 10) := by show _ ≤ _; omega
        clear h2 htl
        go_enter Tryd.func106, Tryd.ntmps106
        go_wp2_with fail
        go_loop [5, 6, 7] (fun sn si _ => ∃ k m : Nat, k ≤ t.length ∧ sn = .int .i64 (m : Int) ∧ si = .int .i64 (k : Int) ∧ Hid (m < 16 ^ k) ∧ Hid (digA 16 t k m = digA 16 t 0 0)) (fun _ si _ => t.length - (intOf si).toNat)
        case atStart => exact ⟨0, 0, Nat.zero_le _, rfl, rfl, Nat.lt_of_lt_of_le (by decide) (Nat.le_refl (16 ^ 0)), rfl⟩
        case round =>
          obtain ⟨k, m, hk, rfl, rfl, HM, HD⟩ := hrel
          have hm40 : m ≤ 1099511627776 := Nat.le_trans (Nat.le_of_lt HM.out) (pow16_le (i := k) (Nat.le_trans hk HLT.out))
          by_cases hlt : k < t.length
          · have e1 : decide ((k : Int) < (t.length : Int)) = true := by simp; omega
            have e1' : decide (k < t.length) = true := by simp; omega
            have hi := HI.out k hlt
            unfold gb at hi
            have HB := Lib.hid (fun h => digA_bad (base := 16) (s := t) (n := m) hlt h)
            have HS := Lib.hid (fun h => digA_step (base := 16) (s := t) (n := m) hlt h)
            obtain ⟨b, hbe⟩ : ∃ b, b = t.getD k 0 := ⟨_, rfl⟩
            rw [← hbe] at hi HB HS
            clear hbe
            have H1 := Lib.hid (digitR_any b w)
            obtain ⟨d, hd⟩ : ∃ d, d = hexD b := ⟨_, rfl⟩
            rw [← hd] at H1 HB HS
            clear hd
            by_cases hdb : 16 ≤ d
            · have d1 : decide ((16 : Int) ≤ (d : Int)) = true := by simp; omega
              have d1' : decide (16 ≤ d) = true := by simp; omega
              have HN := Lib.hid (HB.out hdb)
              clear HB HS
              go_wp2_with fail
              refine H1.out.mono ?_
              rintro e w1 ⟨rfl, hw1⟩
              obtain rfl : w = w1 := hw1.symm
              go_wp2_with fail
              go_ret2
              exact NumP.none (by rw [HQ.out, ← HD.out, HN.out]; rfl)
            · have d1 : decide ((16 : Int) ≤ (d : Int)) = false := by simp; omega
              have d1' : decide (16 ≤ d) = false := by simp; omega
              have hd16 : d < 16 := by omega
              have HN : Hid (digA 16 t (k + 1) (16 * m + d) = digA 16 t 0 0) := by show _ = _; rw [← HS.out hd16]; exact HD.out
              have HP : Hid (16 * m + d < 16 ^ (k + 1)) := pow16_step HM.out (by decide) hd16
              clear HB HS
              go_wp2_with fail
              refine H1.out.mono ?_
              rintro e w1 ⟨rfl, hw1⟩
              obtain rfl : w = w1 := hw1.symm
              go_wp2_with fail
              go_round
              case rel => exact ⟨k + 1, 16 * m + d, by omega, by go_num, by go_num, HP.out, HN.out⟩
              case measure => simp [intOf]; omega
          · have e1 : decide ((k : Int) < (t.length : Int)) = false := by simp; omega
            have e1' : decide (k < t.length) = false := by simp; omega
            have HN : Hid (some m = digA 16 t 0 0) := by show _ = _; rw [← HD.out, digA_end (by omega)]
            by_cases hm : m < 4294967296
            · have d1 : decide ((m : Int) < 4294967296) = true := by simp; omega
              have d1' : decide (m < 4294967296) = true := by simp; omega
              go_wp2_with fail
              go_ret2
              exact NumP.some (by rw [HQ.out, ← HN.out]; simp [hm])
            · have d1 : decide ((m : Int) < 4294967296) = false := by simp; omega
              have d1' : decide (m < 4294967296) = false := by simp; omega
              go_wp2_with fail
              go_ret2
              exact NumP.none (by rw [HQ.out, ← HN.out]; simp [hm])
    · rw [decide_eq_false hx] at hT
      have HQ := Lib.hid (numLR_dec (s := s) (fun h => hx h.2))
      clear hc2 hx
      have HI := Lib.hid (fun k hk W => run_index_strB s (k := k) hk W)
      have hi0 := HI.out 0 (by omega)
      have hh : s.head? = some (s.getD 0 0) := by cases s with | nil => simp at h2 | cons a l => rfl
      unfold gb at hi0
      rw [hh] at HQ
      obtain ⟨b0, hb0⟩ : ∃ b, b = s.getD 0 0 := ⟨_, rfl⟩
      rw [← hb0] at hi0 HQ
      have a2 : decide ((1 : Int) < (s.length : Int)) = true := by simp; omega
      have a2' : decide (1 < s.length) = true := by simp; omega
      have hi0 : ∀ W : World, (Instr.index 9 (.string (strB s)) (.int .i64 0)).run Tryd.prog W = .ok (.int .u8 (b0.toNat : Int)) W := hi0
      clear hh hb0
      by_cases h48 : b0 = 48
      · subst h48
        have HN := Lib.hid (HQ.out.trans (if_pos ⟨by omega, rfl⟩))
        clear HQ
        go_enter Tryd.func106, Tryd.ntmps106
        go_wp2_with fail
        go_ret2
        exact NumP.none HN.out
      · have d48 : ((b0.toNat : Int) == 48) = false := by
          have : b0.toNat ≠ 48 := fun e => h48 (UInt8.toNat_inj.1 (by rw [e]; rfl))
          simp; omega
        have HQ := Lib.hid (HQ.out.trans (if_neg (fun h => h48 (by injection h.2))))
        have a3 : decide ((s.length : Int) < 1) = false := by simp; omega
        have a3' : decide (s.length < 1) = false := decide_eq_false (by omega)
        by_cases h10 : 10 < s.length
        · have a4 : decide ((10 : Int) < (s.length : Int)) = true := by simp; omega
          have a4' : decide (10 < s.length) = true := by simp; omega
          have HN := Lib.hid (HQ.out.trans (if_pos (.inr h10)))
          clear HQ
          go_enter Tryd.func106, Tryd.ntmps106
          go_wp2_with fail
          go_ret2
          exact NumP.none HN.out
        · have a4 : decide ((10 : Int) < (s.length : Int)) = false := by simp; omega
          have a4' : decide (10 < s.length) = false := by simp; omega
          have HQ := Lib.hid (HQ.out.trans (if_neg (by omega)))
          have HLT : Hid (s.length ≤ 10) := by show _ ≤ _; omega
          go_enter Tryd.func106, Tryd.ntmps106
          go_wp2_with fail
          go_loop [5, 6, 7] (fun sn si _ => ∃ k m : Nat, k ≤ s.length ∧ sn = .int .i64 (m : Int) ∧ si = .int .i64 (k : Int) ∧ Hid (m < 16 ^ k) ∧ Hid (digA 10 s k m = digA 10 s 0 0)) (fun _ si _ => s.length - (intOf si).toNat)
          case atStart => exact ⟨0, 0, Nat.zero_le _, rfl, rfl, Nat.lt_of_lt_of_le (by decide) (Nat.le_refl (16 ^ 0)), rfl⟩
          case round =>
            obtain ⟨k, m, hk, rfl, rfl, HM, HD⟩ := hrel
            have hm40 : m ≤ 1099511627776 := Nat.le_trans (Nat.le_of_lt HM.out) (pow16_le (i := k) (Nat.le_trans hk HLT.out))
            by_cases hlt : k < s.length
            · have e1 : decide ((k : Int) < (s.length : Int)) = true := by simp; omega
              have e1' : decide (k < s.length) = true := by simp; omega
              have hi := HI.out k hlt
              unfold gb at hi
              have HB := Lib.hid (fun h => digA_bad (base := 10) (s := s) (n := m) hlt h)
              have HS := Lib.hid (fun h => digA_step (base := 10) (s := s) (n := m) hlt h)
              obtain ⟨b, hbe⟩ : ∃ b, b = s.getD k 0 := ⟨_, rfl⟩
              rw [← hbe] at hi HB HS
              clear hbe
              have H1 := Lib.hid (digitR_any b w)
              obtain ⟨d, hd⟩ : ∃ d, d = hexD b := ⟨_, rfl⟩
              rw [← hd] at H1 HB HS
              clear hd
              by_cases hdb : 10 ≤ d
              · have d1 : decide ((10 : Int) ≤ (d : Int)) = true := by simp; omega
                have d1' : decide (10 ≤ d) = true := by simp; omega
                have HN := Lib.hid (HB.out hdb)
                clear HB HS
                go_wp2_with fail
                refine H1.out.mono ?_
                rintro e w1 ⟨rfl, hw1⟩
                obtain rfl : w = w1 := hw1.symm
                go_wp2_with fail
                go_ret2
                exact NumP.none (by rw [HQ.out, ← HD.out, HN.out]; rfl)
              · have d1 : decide ((10 : Int) ≤ (d : Int)) = false := by simp; omega
                have d1' : decide (10 ≤ d) = false := by simp; omega
                have hd16 : d < 10 := by omega
                have HN : Hid (digA 10 s (k + 1) (10 * m + d) = digA 10 s 0 0) := by show _ = _; rw [← HS.out hd16]; exact HD.out
                have HP : Hid (10 * m + d < 16 ^ (k + 1)) := pow16_step HM.out (by decide) hd16
                clear HB HS
                go_wp2_with fail
                refine H1.out.mono ?_
                rintro e w1 ⟨rfl, hw1⟩
                obtain rfl : w = w1 := hw1.symm
                go_wp2_with fail
                go_round
                case rel => exact ⟨k + 1, 10 * m + d, by omega, by go_num, by go_num, HP.out, HN.out⟩
                case measure => simp [intOf]; omega
            · have e1 : decide ((k : Int) < (s.length : Int)) = false := by simp; omega
              have e1' : decide (k < s.length) = false := by simp; omega
              have HN : Hid (some m = digA 10 s 0 0) := by show _ = _; rw [← HD.out, digA_end (by omega)]
              by_cases hm : m < 4294967296
              · have d1 : decide ((m : Int) < 4294967296) = true := by simp; omega
                have d1' : decide (m < 4294967296) = true := by simp; omega
                go_wp2_with fail
                go_ret2
                exact NumP.some (by rw [HQ.out, ← HN.out]; simp [hm])
              · have d1 : decide ((m : Int) < 4294967296) = false := by simp; omega
                have d1' : decide (m < 4294967296) = false := by simp; omega
                go_wp2_with fail
                go_ret2
                exact NumP.none (by rw [HQ.out, ← HN.out]; simp [hm])
  · have a1 : decide ((2 : Int) < (s.length : Int)) = false := by simp; omega
    have a1' : decide (2 < s.length) = false := by simp; omega
    have HQ := Lib.hid (numLR_dec (s := s) (fun h => h2 h.1))
    have HI := Lib.hid (fun k hk W => run_index_strB s (k := k) hk W)
    clear hT
    by_cases h1 : 1 < s.length
    · have a2 : decide ((1 : Int) < (s.length : Int)) = true := by simp; omega
      have a2' : decide (1 < s.length) = true := by simp; omega
      have hi0 := HI.out 0 (by omega)
      have hh : s.head? = some (s.getD 0 0) := by cases s with | nil => simp at h1 | cons a l => rfl
      unfold gb at hi0
      rw [hh] at HQ
      obtain ⟨b0, hb0⟩ : ∃ b, b = s.getD 0 0 := ⟨_, rfl⟩
      rw [← hb0] at hi0 HQ
      have hi0 : ∀ W : World, (Instr.index 9 (.string (strB s)) (.int .i64 0)).run Tryd.prog W = .ok (.int .u8 (b0.toNat : Int)) W := hi0
      clear hh hb0
      by_cases h48 : b0 = 48
      · subst h48
        have HN := Lib.hid (HQ.out.trans (if_pos ⟨by omega, rfl⟩))
        clear HQ
        go_enter Tryd.func106, Tryd.ntmps106
        go_wp2_with fail
        go_ret2
        exact NumP.none HN.out
      · have d48 : ((b0.toNat : Int) == 48) = false := by
          have : b0.toNat ≠ 48 := fun e => h48 (UInt8.toNat_inj.1 (by rw [e]; rfl))
          simp; omega
        have HQ := Lib.hid (HQ.out.trans (if_neg (fun h => h48 (by injection h.2))))
        have a3 : decide ((s.length : Int) < 1) = false := by simp; omega
        have a3' : decide (s.length < 1) = false := decide_eq_false (by omega)
        have a4 : decide ((10 : Int) < (s.length : Int)) = false := by simp; omega
        have a4' : decide (10 < s.length) = false := by simp; omega
        have HQ := Lib.hid (HQ.out.trans (if_neg (by omega)))
        have HLT : Hid (s.length ≤ 10) := by show _ ≤ _; omega
        go_enter Tryd.func106, Tryd.ntmps106
        go_wp2_with fail
        go_loop [5, 6, 7] (fun sn si _ => ∃ k m : Nat, k ≤ s.length ∧ sn = .int .i64 (m : Int) ∧ si = .int .i64 (k : Int) ∧ Hid (m < 16 ^ k) ∧ Hid (digA 10 s k m = digA 10 s 0 0)) (fun _ si _ => s.length - (intOf si).toNat)
        case atStart => exact ⟨0, 0, Nat.zero_le _, rfl, rfl, Nat.lt_of_lt_of_le (by decide) (Nat.le_refl (16 ^ 0)), rfl⟩
        case round =>
          obtain ⟨k, m, hk, rfl, rfl, HM, HD⟩ := hrel
          have hm40 : m ≤ 1099511627776 := Nat.le_trans (Nat.le_of_lt HM.out) (pow16_le (i := k) (Nat.le_trans hk HLT.out))
          by_cases hlt : k < s.length
          · have e1 : decide ((k : Int) < (s.length : Int)) = true := by simp; omega
            have e1' : decide (k < s.length) = true := by simp; omega
            have hi := HI.out k hlt
            unfold gb at hi
            have HB := Lib.hid (fun h => digA_bad (base := 10) (s := s) (n := m) hlt h)
            have HS := Lib.hid (fun h => digA_step (base := 10) (s := s) (n := m) hlt h)
            obtain ⟨b, hbe⟩ : ∃ b, b = s.getD k 0 := ⟨_, rfl⟩
            rw [← hbe] at hi HB HS
            clear hbe
            have H1 := Lib.hid (digitR_any b w)
            obtain ⟨d, hd⟩ : ∃ d, d = hexD b := ⟨_, rfl⟩
            rw [← hd] at H1 HB HS
            clear hd
            by_cases hdb : 10 ≤ d
            · have d1 : decide ((10 : Int) ≤ (d : Int)) = true := by simp; omega
              have d1' : decide (10 ≤ d) = true := by simp; omega
              have HN := Lib.hid (HB.out hdb)
              clear HB HS
              go_wp2_with fail
              refine H1.out.mono ?_
              rintro e w1 ⟨rfl, hw1⟩
              obtain rfl : w = w1 := hw1.symm
              go_wp2_with fail
              go_ret2
              exact NumP.none (by rw [HQ.out, ← HD.out, HN.out]; rfl)
            · have d1 : decide ((10 : Int) ≤ (d : Int)) = false := by simp; omega
              have d1' : decide (10 ≤ d) = false := by simp; omega
              have hd16 : d < 10 := by omega
              have HN : Hid (digA 10 s (k + 1) (10 * m + d) = digA 10 s 0 0) := by show _ = _; rw [← HS.out hd16]; exact HD.out
              have HP : Hid (10 * m + d < 16 ^ (k + 1)) := pow16_step HM.out (by decide) hd16
              clear HB HS
              go_wp2_with fail
              refine H1.out.mono ?_
              rintro e w1 ⟨rfl, hw1⟩
              obtain rfl : w = w1 := hw1.symm
              go_wp2_with fail
              go_round
              case rel => exact ⟨k + 1, 10 * m + d, by omega, by go_num, by go_num, HP.out, HN.out⟩
              case measure => simp [intOf]; omega
          · have e1 : decide ((k : Int) < (s.length : Int)) = false := by simp; omega
            have e1' : decide (k < s.length) = false := by simp; omega
            have HN : Hid (some m = digA 10 s 0 0) := by show _ = _; rw [← HD.out, digA_end (by omega)]
            by_cases hm : m < 4294967296
            · have d1 : decide ((m : Int) < 4294967296) = true := by simp; omega
              have d1' : decide (m < 4294967296) = true := by simp; omega
              go_wp2_with fail
              go_ret2
              exact NumP.some (by rw [HQ.out, ← HN.out]; simp [hm])
            · have d1 : decide ((m : Int) < 4294967296) = false := by simp; omega
              have d1' : decide (m < 4294967296) = false := by simp; omega
              go_wp2_with fail
              go_ret2
              exact NumP.none (by rw [HQ.out, ← HN.out]; simp [hm])
    · have a2 : decide ((1 : Int) < (s.length : Int)) = false := by simp; omega
      have a2' : decide (1 < s.length) = false := by simp; omega
      have HQ := Lib.hid (HQ.out.trans (if_neg (fun h => h1 h.1)))
      by_cases h0 : s.length < 1
      · have a3 : decide ((s.length : Int) < 1) = true := by simp; omega
        have a3' : decide (s.length < 1) = true := decide_eq_true (by omega)
        have HN := Lib.hid (HQ.out.trans (if_pos (.inl h0)))
        clear HQ
        go_enter Tryd.func106, Tryd.ntmps106
        go_wp2_with fail
        go_ret2
        exact NumP.none HN.out
      · have a3 : decide ((s.length : Int) < 1) = false := by simp; omega
        have a3' : decide (s.length < 1) = false := decide_eq_false (by omega)
        have a4 : decide ((10 : Int) < (s.length : Int)) = false := by simp; omega
        have a4' : decide (10 < s.length) = false := by simp; omega
        have HQ := Lib.hid (HQ.out.trans (if_neg (by omega)))
        have HLT : Hid (s.length ≤ 10) := by show _ ≤ _; omega
        go_enter Tryd.func106, Tryd.ntmps106
        go_wp2_with fail
        go_loop [5, 6, 7] (fun sn si _ => ∃ k m : Nat, k ≤ s.length ∧ sn = .int .i64 (m : Int) ∧ si = .int .i64 (k : Int) ∧ Hid (m < 16 ^ k) ∧ Hid (digA 10 s k m = digA 10 s 0 0)) (fun _ si _ => s.length - (intOf si).toNat)
        case atStart => exact ⟨0, 0, Nat.zero_le _, rfl, rfl, Nat.lt_of_lt_of_le (by decide) (Nat.le_refl (16 ^ 0)), rfl⟩
        case round =>
          obtain ⟨k, m, hk, rfl, rfl, HM, HD⟩ := hrel
          have hm40 : m ≤ 1099511627776 := Nat.le_trans (Nat.le_of_lt HM.out) (pow16_le (i := k) (Nat.le_trans hk HLT.out))
          by_cases hlt : k < s.length
          · have e1 : decide ((k : Int) < (s.length : Int)) = true := by simp; omega
            have e1' : decide (k < s.length) = true := by simp; omega
            have hi := HI.out k hlt
            unfold gb at hi
            have HB := Lib.hid (fun h => digA_bad (base := 10) (s := s) (n := m) hlt h)
            have HS := Lib.hid (fun h => digA_step (base := 10) (s := s) (n := m) hlt h)
            obtain ⟨b, hbe⟩ : ∃ b, b = s.getD k 0 := ⟨_, rfl⟩
            rw [← hbe] at hi HB HS
            clear hbe
            have H1 := Lib.hid (digitR_any b w)
            obtain ⟨d, hd⟩ : ∃ d, d = hexD b := ⟨_, rfl⟩
            rw [← hd] at H1 HB HS
            clear hd
            by_cases hdb : 10 ≤ d
            · have d1 : decide ((10 : Int) ≤ (d : Int)) = true := by simp; omega
              have d1' : decide (10 ≤ d) = true := by simp; omega
              have HN := Lib.hid (HB.out hdb)
              clear HB HS
              go_wp2_with fail
              refine H1.out.mono ?_
              rintro e w1 ⟨rfl, hw1⟩
              obtain rfl : w = w1 := hw1.symm
              go_wp2_with fail
              go_ret2
              exact NumP.none (by rw [HQ.out, ← HD.out, HN.out]; rfl)
            · have d1 : decide ((10 : Int) ≤ (d : Int)) = false := by simp; omega
              have d1' : decide (10 ≤ d) = false := by simp; omega
              have hd16 : d < 10 := by omega
              have HN : Hid (digA 10 s (k + 1) (10 * m + d) = digA 10 s 0 0) := by show _ = _; rw [← HS.out hd16]; exact HD.out
              have HP : Hid (10 * m + d < 16 ^ (k + 1)) := pow16_step HM.out (by decide) hd16
              clear HB HS
              go_wp2_with fail
              refine H1.out.mono ?_
              rintro e w1 ⟨rfl, hw1⟩
              obtain rfl : w = w1 := hw1.symm
              go_wp2_with fail
              go_round
              case rel => exact ⟨k + 1, 10 * m + d, by omega, by go_num, by go_num, HP.out, HN.out⟩
              case measure => simp [intOf]; omega
          · have e1 : decide ((k : Int) < (s.length : Int)) = false := by simp; omega
            have e1' : decide (k < s.length) = false := by simp; omega
            have HN : Hid (some m = digA 10 s 0 0) := by show _ = _; rw [← HD.out, digA_end (by omega)]
            by_cases hm : m < 4294967296
            · have d1 : decide ((m : Int) < 4294967296) = true := by simp; omega
              have d1' : decide (m < 4294967296) = true := by simp; omega
              go_wp2_with fail
              go_ret2
              exact NumP.some (by rw [HQ.out, ← HN.out]; simp [hm])
            · have d1 : decide ((m : Int) < 4294967296) = false := by simp; omega
              have d1' : decide (m < 4294967296) = false := by simp; omega
              go_wp2_with fail
              go_ret2
              exact NumP.none (by rw [HQ.out, ← HN.out]; simp [hm])

theorem nameChar_int (b : UInt8) : nameChar b = (decide (97 ≤ (b.toNat : Int) ∧ (b.toNat : Int) ≤ 122) || decide (48 ≤ (b.toNat : Int) ∧ (b.toNat : Int) ≤ 57) || decide ((b.toNat : Int) = 95)) := by
  have h : ∀ k : Fin 256, nameChar (UInt8.ofNat k.val) = (decide (97 ≤ (k.val : Int) ∧ (k.val : Int) ≤ 122) || decide (48 ≤ (k.val : Int) ∧ (k.val : Int) ≤ 57) || decide ((k.val : Int) = 95)) := by decide +kernel
  have := h ⟨b.toNat, b.toNat_lt⟩
  simpa using this
theorem nameL_len {s : List UInt8} (h : ¬ (1 ≤ s.length ∧ s.length ≤ 32)) : nameL s = false := by unfold nameL; rw [decide_eq_false h]; rfl
theorem nameL_head {s : List UInt8} (h1 : 1 ≤ s.length) (h : ¬ (97 ≤ ((s.getD 0 0).toNat : Int) ∧ ((s.getD 0 0).toNat : Int) ≤ 122)) : nameL s = false := by
  cases s with
  | nil => simp at h1
  | cons a l =>
    have ha : (decide (97 ≤ a) && decide (a ≤ 122)) = false := by
      have h' : ¬ (97 ≤ (a.toNat : Int) ∧ (a.toNat : Int) ≤ 122) := h
      rw [← Bool.not_eq_true, Bool.and_eq_true, decide_eq_true_iff, decide_eq_true_iff, UInt8.le_iff_toNat_le, UInt8.le_iff_toNat_le]
      intro h2
      have h3 : (97 : UInt8).toNat = 97 := rfl
      have h4 : (122 : UInt8).toNat = 122 := rfl
      exact h' (by omega)
    unfold nameL
    simp only [List.head?_cons, ha, Bool.and_false, Bool.false_and]
theorem nameL_decl {s : List UInt8} (h : declL4.contains s = true) : nameL s = false := by unfold nameL; rw [h]; simp
theorem nameL_char {s : List UInt8} {k : Nat} (hk : k < s.length) (h : nameChar (s.getD k 0) = false) : nameL s = false := by
  have : s.all nameChar = false := by
    rw [List.all_eq_false]
    refine ⟨s[k], List.getElem_mem hk, ?_⟩
    rw [List.getD_eq_getElem?_getD, List.getElem?_eq_getElem hk] at h
    simpa using h
  unfold nameL; rw [this]; simp
theorem nameL_fine {s : List UInt8} (h1 : 1 ≤ s.length ∧ s.length ≤ 32) (h2 : 97 ≤ ((s.getD 0 0).toNat : Int) ∧ ((s.getD 0 0).toNat : Int) ≤ 122) (h3 : ∀ k, k < s.length → nameChar (s.getD k 0) = true) (h4 : declL4.contains s = false) : nameL s = (!(findL s).isSome) := by
  cases s with
  | nil => simp at h1
  | cons a l =>
    have ha : (decide (97 ≤ a) && decide (a ≤ 122)) = true := by
      have h' : 97 ≤ (a.toNat : Int) ∧ (a.toNat : Int) ≤ 122 := h2
      rw [Bool.and_eq_true, decide_eq_true_iff, decide_eq_true_iff, UInt8.le_iff_toNat_le, UInt8.le_iff_toNat_le]
      have h3 : (97 : UInt8).toNat = 97 := rfl
      have h4 : (122 : UInt8).toNat = 122 := rfl
      omega
    have hall : (a :: l).all nameChar = true := by
      rw [List.all_eq_true]
      intro x hx
      obtain ⟨k, hk, rfl⟩ := List.getElem_of_mem hx
      have := h3 k hk
      rwa [List.getD_eq_getElem?_getD, List.getElem?_eq_getElem hk] at this
    unfold nameL
    rw [decide_eq_true h1, hall, h4]
    simp only [List.head?_cons, ha]
    cases findL (a :: l) <;> rfl
set_option maxRecDepth 100000 in
set_option maxHeartbeats 4000000 in
theorem nameW_any (s : List UInt8) (w : World) (hs : s.length ≤ 9000) : Calls Tryd.prog 81 #[.string (strB s)] w fun e w' => e = .returned (.bool (nameL s)) ∧ w' = w := by
  have hsz : (strB s).size = s.length := strB_size' s
  have HI := Lib.hid (fun k hk W => run_index_strB s (k := k) hk W)
  have HF := Lib.hid (findR_any s w)
  have HDc := Lib.hid (declaresR_any s w)
  obtain ⟨nb, hnb⟩ : ∃ nb, nb = nameL s := ⟨_, rfl⟩
  rw [← hnb]
  have HNB := Lib.hid hnb
  clear hnb
  by_cases h1 : s.length < 1
  · have a1 : decide ((s.length : Int) < 1) = true := by simp; omega
    have a1' : decide (s.length < 1) = true := decide_eq_true (by omega)
    have Z : Hid (nb = false) := HNB.out.trans (nameL_len (by omega))
    go_enter Tryd.func81, Tryd.ntmps81
    go_wp2_with fail
    go_ret
    exact ⟨ret_bool Z.out.symm, rfl⟩
  have a1 : decide ((s.length : Int) < 1) = false := by simp; omega
  have a1' : decide (s.length < 1) = false := decide_eq_false (by omega)
  by_cases h2 : 32 < s.length
  · have a2 : decide ((32 : Int) < (s.length : Int)) = true := by simp; omega
    have a2' : decide (32 < s.length) = true := by simp; omega
    have Z : Hid (nb = false) := HNB.out.trans (nameL_len (by omega))
    go_enter Tryd.func81, Tryd.ntmps81
    go_wp2_with fail
    go_ret
    exact ⟨ret_bool Z.out.symm, rfl⟩
  have a2 : decide ((32 : Int) < (s.length : Int)) = false := by simp; omega
  have a2' : decide (32 < s.length) = false := by simp; omega
  have hi0 := HI.out 0 (by omega)
  unfold gb at hi0
  have HH := Lib.hid (fun h => nameL_head (s := s) (by omega) h)
  have HG := Lib.hid (fun h h3 h4 => nameL_fine (s := s) (by omega) h h3 h4)
  obtain ⟨x0, hx0⟩ : ∃ x0 : Int, x0 = ((s.getD 0 0).toNat : Int) := ⟨_, rfl⟩
  rw [← hx0] at hi0 HH HG
  have hi0 : ∀ W : World, (Instr.index 9 (.string (strB s)) (.int .i64 0)).run Tryd.prog W = .ok (.int .u8 x0) W := hi0
  clear hx0
  by_cases h3 : x0 < 97
  · have a3 : decide (x0 < 97) = true := by simpa using h3
    have Z : Hid (nb = false) := HNB.out.trans (HH.out (by omega))
    go_enter Tryd.func81, Tryd.ntmps81
    go_wp2_with fail
    go_ret
    exact ⟨ret_bool Z.out.symm, rfl⟩
  have a3 : decide (x0 < 97) = false := by simpa using h3
  by_cases h4 : 122 < x0
  · have a4 : decide (122 < x0) = true := by simpa using h4
    have Z : Hid (nb = false) := HNB.out.trans (HH.out (by omega))
    go_enter Tryd.func81, Tryd.ntmps81
    go_wp2_with fail
    go_ret
    exact ⟨ret_bool Z.out.symm, rfl⟩
  have a4 : decide (122 < x0) = false := by simpa using h4
  have HX : Hid (97 ≤ x0 ∧ x0 ≤ 122) := by show _ ∧ _; omega
  cases hdc : declL4.contains s with
  | true =>
    rw [hdc] at HDc
    have Z : Hid (nb = false) := HNB.out.trans (nameL_decl hdc)
    clear hdc
    go_enter Tryd.func81, Tryd.ntmps81
    go_wp2_with fail
    refine HDc.out.mono ?_
    rintro e w1 ⟨rfl, hw1⟩
    obtain rfl : w = w1 := hw1.symm
    go_wp2_with fail
    go_ret
    exact ⟨ret_bool Z.out.symm, rfl⟩
  | false =>
    rw [hdc] at HDc
    have HG := Lib.hid (fun h3 => HG.out HX.out h3 hdc)
    clear hdc
    go_enter Tryd.func81, Tryd.ntmps81
    go_wp2_with fail
    refine HDc.out.mono ?_
    rintro e w1 ⟨rfl, hw1⟩
    obtain rfl : w = w1 := hw1.symm
    clear HDc
    go_wp2_with fail
    go_loop [3] (fun i => ∃ k : Nat, k ≤ s.length ∧ i = .int .i64 (k : Int) ∧ Hid (∀ j, j < k → nameChar (s.getD j 0) = true)) (fun i => s.length - (intOf i).toNat)
    case atStart => exact ⟨0, Nat.zero_le _, rfl, fun j hj => absurd hj (by omega)⟩
    case round =>
      obtain ⟨k, hk, rfl, HK⟩ := hrel
      clear hi0 h3 h4 a3 a4
      by_cases hlt : k < s.length
      · have e1 : decide ((k : Int) < (s.length : Int)) = true := by simp; omega
        have e1' : decide (k < s.length) = true := by simp; omega
        have hi := HI.out k hlt
        unfold gb at hi
        have HZ : Hid (nameChar (s.getD k 0) = false → nb = false) := fun h => HNB.out.trans (nameL_char hlt h)
        have HY : Hid (nameChar (s.getD k 0) = true → ∀ j, j < k + 1 → nameChar (s.getD j 0) = true) := fun h j hj => by
          rcases Nat.lt_or_ge j k with h1 | h1
          · exact HK.out j h1
          · obtain rfl : j = k := by omega
            exact h
        rw [nameChar_int (s.getD k 0)] at HZ HY
        obtain ⟨x, hx⟩ : ∃ x : Int, x = ((s.getD k 0).toNat : Int) := ⟨_, rfl⟩
        rw [← hx] at hi HZ HY
        clear hx HK
        by_cases c1 : x < 97
        · have d1 : decide (x < 97) = true := by simpa using c1
          by_cases c2 : x < 48
          · have d2 : decide (x < 48) = true := by simpa using c2
            have d3 : (x != 95) = true := by simp; omega
            have Z : Hid (nb = false) := HZ.out (by simp; omega)
            clear HZ HY
            go_wp2_with fail
            go_ret
            exact ⟨ret_bool Z.out.symm, rfl⟩
          · have d2 : decide (x < 48) = false := by simpa using c2
            by_cases c3 : 57 < x
            · have d3 : decide (57 < x) = true := by simpa using c3
              by_cases c4 : x = 95
              · have d4 : (x != 95) = false := by simpa using c4
                have Y := Lib.hid (HY.out (by simp; omega))
                clear HZ HY
                go_wp2_with fail
                go_round
                case rel => exact ⟨k + 1, by omega, by go_num, Y.out⟩
                case measure => simp [intOf]; omega
              · have d4 : (x != 95) = true := by simpa using c4
                have Z : Hid (nb = false) := HZ.out (by simp; omega)
                clear HZ HY
                go_wp2_with fail
                go_ret
                exact ⟨ret_bool Z.out.symm, rfl⟩
            · have d3 : decide (57 < x) = false := by simpa using c3
              have Y := Lib.hid (HY.out (by simp; omega))
              clear HZ HY
              go_wp2_with fail
              go_round
              case rel => exact ⟨k + 1, by omega, by go_num, Y.out⟩
              case measure => simp [intOf]; omega
        · have d1 : decide (x < 97) = false := by simpa using c1
          by_cases c2 : 122 < x
          · have d2 : decide (122 < x) = true := by simpa using c2
            have d3 : decide (x < 48) = false := by simp; omega
            have d4 : decide (57 < x) = true := by simp; omega
            have d5 : (x != 95) = true := by simp; omega
            have Z : Hid (nb = false) := HZ.out (by simp; omega)
            clear HZ HY
            go_wp2_with fail
            go_ret
            exact ⟨ret_bool Z.out.symm, rfl⟩
          · have d2 : decide (122 < x) = false := by simpa using c2
            have Y := Lib.hid (HY.out (by simp; omega))
            clear HZ HY
            go_wp2_with fail
            go_round
            case rel => exact ⟨k + 1, by omega, by go_num, Y.out⟩
            case measure => simp [intOf]; omega
      · have e1 : decide ((k : Int) < (s.length : Int)) = false := by simp; omega
        have e1' : decide (k < s.length) = false := by simp; omega
        have Z : Hid (nb = !(findL s).isSome) := HNB.out.trans (HG.out (fun j hj => HK.out j (by omega)))
        obtain ⟨fb, hfb⟩ : ∃ fb, fb = (findL s).isSome := ⟨_, rfl⟩
        rw [← hfb] at HF Z
        clear hfb HK
        go_wp2_with fail
        refine HF.out.mono ?_
        rintro e w1 ⟨rfl, hw1⟩
        obtain rfl : w = w1 := hw1.symm
        go_wp2_with fail
        go_ret
        exact ⟨ret_bool Z.out.symm, rfl⟩
end Go.Proofs.YtlbhggjkcfcobaaDoor
