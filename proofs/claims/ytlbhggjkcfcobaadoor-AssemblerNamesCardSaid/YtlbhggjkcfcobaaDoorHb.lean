/- The reference of the assembler: gap, digit, declares, few, Find. -/
import Derived.Test.YtlbhggjkcfcobaaDoorHa
import Derived.Test.YtlbhggjkcfcobaaDoorAg
import Derived.Test.YtlbhggjkcfcobaaDoorAm
namespace Go.Proofs.YtlbhggjkcfcobaaDoor
open Go.RowKit Go.Proofs
set_option linter.unusedVariables false

theorem gapB_int (b : UInt8) : gapB b = (((((b.toNat : Int) == 32) || ((b.toNat : Int) == 9)) || ((b.toNat : Int) == 10)) || ((b.toNat : Int) == 59)) := by
  have h : ∀ k : Fin 256, gapB (UInt8.ofNat k.val) = (((((k.val : Int) == 32) || ((k.val : Int) == 9)) || ((k.val : Int) == 10)) || ((k.val : Int) == 59)) := by decide +kernel
  have := h ⟨b.toNat, b.toNat_lt⟩
  simpa using this
theorem gapR_any (b : UInt8) (w : World) : Calls Tryd.prog 77 #[.int .u8 (b.toNat : Int)] w fun e w' => e = .returned (.bool (gapB b)) ∧ w' = w := by
  rw [gapB_int]
  obtain ⟨x, hx⟩ : ∃ x : Int, x = (b.toNat : Int) := ⟨_, rfl⟩
  rw [← hx]; clear hx
  cases h1 : (x == 32) with
  | true =>
    go_enter Tryd.func77, Tryd.ntmps77
    go_wp2_with fail
    go_ret
    exact ⟨rfl, rfl⟩
  | false =>
    cases h2 : (x == 9) with
    | true =>
      go_enter Tryd.func77, Tryd.ntmps77
      go_wp2_with fail
      go_ret
      exact ⟨rfl, rfl⟩
    | false =>
      cases h3 : (x == 10) with
      | true =>
        go_enter Tryd.func77, Tryd.ntmps77
        go_wp2_with fail
        go_ret
        exact ⟨rfl, rfl⟩
      | false =>
        cases h4 : (x == 59) with
        | true =>
          go_enter Tryd.func77, Tryd.ntmps77
          go_wp2_with fail
          go_ret
          exact ⟨rfl, rfl⟩
        | false =>
          go_enter Tryd.func77, Tryd.ntmps77
          go_wp2_with fail
          go_ret
          exact ⟨rfl, rfl⟩
theorem digitR_any (b : UInt8) (w : World) : Calls Tryd.prog 121 #[.int .u8 (b.toNat : Int)] w fun e w' => e = .returned (.int .i64 (hexD b : Int)) ∧ w' = w := by
  have hv := Lib.hid (hexD_int b)
  have hlt : (b.toNat : Int) ≤ 255 := by have := b.toNat_lt; omega
  have h0 : 0 ≤ (b.toNat : Int) := by omega
  obtain ⟨d, hd⟩ : ∃ d : Int, d = (hexD b : Int) := ⟨_, rfl⟩
  rw [← hd]
  have hv : Hid (d = if 48 ≤ (b.toNat : Int) ∧ (b.toNat : Int) ≤ 57 then (b.toNat : Int) - 48 else if 97 ≤ (b.toNat : Int) ∧ (b.toNat : Int) ≤ 102 then (b.toNat : Int) - 87 else 99) := by show _ = _; rw [hd]; exact hv.out
  clear hd
  obtain ⟨x, hx⟩ : ∃ x : Int, x = (b.toNat : Int) := ⟨_, rfl⟩
  rw [← hx] at hv hlt h0 ⊢; clear hx
  by_cases h1 : 48 ≤ x
  · have e1 : decide (48 ≤ x) = true := by simpa using h1
    by_cases h2 : x ≤ 57
    · have e2 : decide (x ≤ 57) = true := by simpa using h2
      go_enter Tryd.func121, Tryd.ntmps121
      go_wp2_with fail
      go_ret
      exact ⟨ret_int (by rw [hv.out, if_pos (by omega)]), rfl⟩
    · have e2 : decide (x ≤ 57) = false := by simpa using h2
      by_cases h3 : 97 ≤ x
      · have e3 : decide (97 ≤ x) = true := by simpa using h3
        by_cases h4 : x ≤ 102
        · have e4 : decide (x ≤ 102) = true := by simpa using h4
          go_enter Tryd.func121, Tryd.ntmps121
          go_wp2_with fail
          go_ret
          exact ⟨ret_int (by rw [hv.out, if_neg (by omega), if_pos (by omega)]; omega), rfl⟩
        · have e4 : decide (x ≤ 102) = false := by simpa using h4
          go_enter Tryd.func121, Tryd.ntmps121
          go_wp2_with fail
          go_ret
          exact ⟨ret_int (by rw [hv.out, if_neg (by omega), if_neg (by omega)]), rfl⟩
      · have e3 : decide (97 ≤ x) = false := by simpa using h3
        go_enter Tryd.func121, Tryd.ntmps121
        go_wp2_with fail
        go_ret
        exact ⟨ret_int (by rw [hv.out, if_neg (by omega), if_neg (by omega)]), rfl⟩
  · have e1 : decide (48 ≤ x) = false := by simpa using h1
    have e3 : decide (97 ≤ x) = false := by simp; omega
    go_enter Tryd.func121, Tryd.ntmps121
    go_wp2_with fail
    go_ret
    exact ⟨ret_int (by rw [hv.out, if_neg (by omega), if_neg (by omega)]), rfl⟩
theorem beq_dec (s t : List UInt8) : (s == t) = decide (s = t) := by by_cases h : s = t <;> simp [h]
theorem declL4_eq (s : List UInt8) : declL4.contains s = (((decide (s = [98, 121, 116, 101, 115]) || decide (s = [119, 111, 114, 100, 115])) || decide (s = [108, 111, 99, 97, 108])) || decide (s = [99, 111, 110, 115, 116])) := by
  unfold declL4
  simp only [List.contains_cons, List.contains_nil, Bool.or_false, Bool.or_assoc]
  simp only [beq_dec]
theorem declaresR_any (s : List UInt8) (w : World) : Calls Tryd.prog 46 #[.string (strB s)] w fun e w' => e = .returned (.bool (declL4.contains s)) ∧ w' = w := by
  rw [declL4_eq]
  have b1 : ((strB s).toList == ([98, 121, 116, 101, 115] : List UInt8)) = decide (s = [98, 121, 116, 101, 115]) := by rw [strB_toList]; exact beq_dec _ _
  have b2 : ((strB s).toList == ([119, 111, 114, 100, 115] : List UInt8)) = decide (s = [119, 111, 114, 100, 115]) := by rw [strB_toList]; exact beq_dec _ _
  have b3 : ((strB s).toList == ([108, 111, 99, 97, 108] : List UInt8)) = decide (s = [108, 111, 99, 97, 108]) := by rw [strB_toList]; exact beq_dec _ _
  have b4 : ((strB s).toList == ([99, 111, 110, 115, 116] : List UInt8)) = decide (s = [99, 111, 110, 115, 116]) := by rw [strB_toList]; exact beq_dec _ _
  cases h1 : decide (s = [98, 121, 116, 101, 115]) with
  | true =>
    rw [h1] at b1
    clear h1
    go_enter Tryd.func46, Tryd.ntmps46
    go_wp2_with fail
    go_ret
    exact ⟨rfl, rfl⟩
  | false =>
    rw [h1] at b1
    clear h1
    cases h2 : decide (s = [119, 111, 114, 100, 115]) with
    | true =>
      rw [h2] at b2
      clear h2
      go_enter Tryd.func46, Tryd.ntmps46
      go_wp2_with fail
      go_ret
      exact ⟨rfl, rfl⟩
    | false =>
      rw [h2] at b2
      clear h2
      cases h3 : decide (s = [108, 111, 99, 97, 108]) with
      | true =>
        rw [h3] at b3
        clear h3
        go_enter Tryd.func46, Tryd.ntmps46
        go_wp2_with fail
        go_ret
        exact ⟨rfl, rfl⟩
      | false =>
        rw [h3] at b3
        clear h3
        cases h4 : decide (s = [99, 111, 110, 115, 116]) with
        | true =>
          rw [h4] at b4
          clear h4
          go_enter Tryd.func46, Tryd.ntmps46
          go_wp2_with fail
          go_ret
          exact ⟨rfl, rfl⟩
        | false =>
          rw [h4] at b4
          clear h4
          go_enter Tryd.func46, Tryd.ntmps46
          go_wp2_with fail
          go_ret
          exact ⟨rfl, rfl⟩
def fewN (n : Nat) : Bool := decide (n ≤ 2000) || (decide (8192 < n) && decide (n ≤ 8292))
theorem few_any (s : List UInt8) (w : World) (hl : s.length < 9223372036854775808) : Calls Tryd.prog 10 #[.string (strB s)] w fun e w' => e = .returned (.bool (fewN s.length)) ∧ w' = w := by
  have hsz : (strB s).size = s.length := strB_size' s
  unfold fewN
  obtain ⟨n, hn⟩ : ∃ n, n = s.length := ⟨_, rfl⟩
  rw [← hn] at hl hsz ⊢
  clear hn
  by_cases h1 : n ≤ 2000
  · have e1 : decide ((n : Int) ≤ 2000) = true := by simp; omega
    have e1' : decide (n ≤ 2000) = true := by simp; omega
    go_enter Tryd.func10, Tryd.ntmps10
    go_wp2_with fail
    go_ret
    exact ⟨ret_bool (by rw [decide_eq_true h1]; rfl), rfl⟩
  · have e1 : decide ((n : Int) ≤ 2000) = false := by simp; omega
    have e1' : decide (n ≤ 2000) = false := by simp; omega
    by_cases h2 : 8192 < n
    · have e2 : decide ((8192 : Int) < (n : Int)) = true := by simp; omega
      have e2' : decide (8192 < n) = true := by simp; omega
      by_cases h3 : n ≤ 8292
      · have e3 : decide ((n : Int) ≤ 8292) = true := by simp; omega
        have e3' : decide (n ≤ 8292) = true := by simp; omega
        go_enter Tryd.func10, Tryd.ntmps10
        go_wp2_with fail
        go_ret
        exact ⟨ret_bool (by rw [decide_eq_false h1, decide_eq_true h2, decide_eq_true h3]; rfl), rfl⟩
      · have e3 : decide ((n : Int) ≤ 8292) = false := by simp; omega
        have e3' : decide (n ≤ 8292) = false := by simp; omega
        go_enter Tryd.func10, Tryd.ntmps10
        go_wp2_with fail
        go_ret
        exact ⟨ret_bool (by rw [decide_eq_false h1, decide_eq_true h2, decide_eq_false h3]; rfl), rfl⟩
    · have e2 : decide ((8192 : Int) < (n : Int)) = false := by simp; omega
      have e2' : decide (8192 < n) = false := by simp; omega
      go_enter Tryd.func10, Tryd.ntmps10
      go_wp2_with fail
      go_ret
      exact ⟨ret_bool (by rw [decide_eq_false h1, decide_eq_false h2]; rfl), rfl⟩
theorem opX_nat {k : Nat} (hk : k < 36) : opX (k : Int) = opO k := by unfold opX; rw [if_pos (by omega), Int.toNat_natCast]
set_option maxRecDepth 100000 in
set_option maxHeartbeats 2000000 in
theorem findR_any (s : List UInt8) (w : World) : Calls Tryd.prog 48 #[.string (strB s)] w fun e w' => e = .returned (.tuple #[.int .i64 (findN s), .bool (findL s).isSome]) ∧ w' = w := by
  have HN := Lib.hid (fun op => nameR_any op w)
  obtain ⟨fn, hfn⟩ : ∃ fn, fn = findN s := ⟨_, rfl⟩
  obtain ⟨fb, hfb⟩ : ∃ fb, fb = (findL s).isSome := ⟨_, rfl⟩
  have HF : Hid (fn = findN s ∧ fb = (findL s).isSome) := ⟨hfn, hfb⟩
  rw [← hfn, ← hfb]
  clear hfn hfb
  go_enter Tryd.func48, Tryd.ntmps48
  go_wp2_with fail
  go_loop [4] (fun i => ∃ k : Nat, k ≤ 36 ∧ i = .int .i64 (k : Int) ∧ Hid (∀ j, j < k → (opO j).name ≠ s)) (fun i => 36 - (intOf i).toNat)
  case atStart => exact ⟨0, by omega, rfl, fun j hj => absurd hj (by omega)⟩
  case round =>
    obtain ⟨k, hk, rfl, HK⟩ := hrel
    by_cases hlt : k < 36
    · have e1 : decide ((k : Int) < 36) = true := by simp; omega
      have e1' : decide (k < 36) = true := by simp; omega
      have H1 := HN.out (k : Int)
      rw [opX_nat hlt] at H1
      have HS : Hid ((opO k).name = s → findL s = some k) := fun h => findL_hit hlt HK.out h
      have HG : Hid ((opO k).name ≠ s → ∀ j, j < k + 1 → (opO j).name ≠ s) := fun h j hj => by
        rcases Nat.lt_or_ge j k with h1 | h1
        · exact HK.out j h1
        · obtain rfl : j = k := by omega
          exact h
      obtain ⟨x, hxe⟩ : ∃ x, x = (opO k).name := ⟨_, rfl⟩
      rw [← hxe] at H1 HS HG
      have H1 := Lib.hid H1
      clear hxe HK
      have hd := strB_beq x s
      by_cases he : x = s
      · rw [decide_eq_true he] at hd
        have HS' := Lib.hid (HS.out he)
        have hr1 : Hid (fn = (k : Int) ∧ fb = true) := by
          refine ⟨?_, ?_⟩
          · rw [HF.out.1]; unfold findN; rw [HS'.out]
          · rw [HF.out.2, HS'.out]; rfl
        clear HS HG he
        go_wp2_with fail
        refine H1.out.mono ?_
        rintro e w1 ⟨rfl, hw1⟩
        obtain rfl : w = w1 := hw1.symm
        go_wp2_with fail
        go_ret2
        exact ⟨by rw [hr1.out.1, hr1.out.2]; rfl, rfl⟩
      · rw [decide_eq_false he] at hd
        have HG' := Lib.hid (HG.out he)
        clear HS HG he
        go_wp2_with fail
        refine H1.out.mono ?_
        rintro e w1 ⟨rfl, hw1⟩
        obtain rfl : w = w1 := hw1.symm
        go_wp2_with fail
        go_round
        case rel => exact ⟨k + 1, by omega, by go_num, HG'.out⟩
        case measure => simp [intOf]; omega
    · have e1 : decide ((k : Int) < 36) = false := by simp; omega
      have e1' : decide (k < 36) = false := by simp; omega
      have hm := Lib.hid (findL_miss (s := s) (fun j hj => HK.out j (by omega)))
      have hr1 : Hid (fn = 0 ∧ fb = false) := by
        refine ⟨?_, ?_⟩
        · rw [HF.out.1]; unfold findN; rw [hm.out]
        · rw [HF.out.2, hm.out]; rfl
      go_wp2_with fail
      go_ret2
      exact ⟨by rw [hr1.out.1, hr1.out.2]; rfl, rfl⟩
end Go.Proofs.YtlbhggjkcfcobaaDoor
