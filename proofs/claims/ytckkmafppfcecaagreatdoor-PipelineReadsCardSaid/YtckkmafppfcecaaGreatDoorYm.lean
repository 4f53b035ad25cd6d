/- The reference: number, decimal, Same, Print. -/
import Derived.Test.YtckkmafppfcecaaGreatDoorYk
import Derived.Test.YtckkmafppfcecaaGreatDoorYu
import Derived.Test.YtckkmafppfcecaaGreatDoorYz
namespace Go.Proofs.YtckkmafppfcecaaGreatDoor
open Go.RowKit Go.Proofs
set_option linter.unusedVariables false
set_option linter.unusedSimpArgs false

theorem digY_none {b : UInt8} {t : List UInt8} {n : Nat} (h : b < 48 ∨ 57 < b) : digY (b :: t) n = none := by rw [digY, if_pos h]
theorem drop_getD {s : List UInt8} {k : Nat} (h : k < s.length) : s.drop k = s.getD k 0 :: s.drop (k + 1) := by
  rw [List.drop_eq_getElem_cons h, List.getD_eq_getElem?_getD, List.getElem?_eq_getElem h]; rfl
theorem numP_loop {s : List UInt8} (h1 : 1 ≤ s.length) (h2 : s.length ≤ 16) (h3 : ¬ (1 < s.length ∧ s.head? = some 48)) : numP s = (digY s 0).bind fun n => if n ≤ 9007199254740991 then some n else none := by
  unfold numP
  rw [if_neg (by rintro (h | h | h) <;> first | omega | exact h3 h)]
theorem sub48 (b : UInt8) (h1 : 48 ≤ b.toNat) (h2 : b.toNat ≤ 57) : IntKind.u8.wrap ((b.toNat : Int) - 48) = ((b.toNat - 48 : Nat) : Int) := by
  simp [IntKind.wrap, IntKind.bits, IntKind.signed]; omega

set_option maxRecDepth 100000 in
set_option maxHeartbeats 4000000 in
theorem refNumber_any (s : List UInt8) (w : World) (hs : s.length ≤ 1000000) : Calls Tryz.prog 43 #[.string (strB s)] w (NumPost s w) := by
  have hsz : (strB s).size = s.length := rfl
  by_cases h0 : s.length < 1
  · have d0 : decide ((s.length : Int) < 1) = true := decide_eq_true (by omega)
    have d0' : decide (s.length < 1) = true := decide_eq_true (by omega)
    have HN : Hid (numP s = none) := by show _ = _; unfold numP; rw [if_pos (.inl h0)]
    go_enter Tryz.func43, Tryz.ntmps43
    go_wp2_with fail
    go_ret2
    exact NumPost.none HN.out (Below.refl _ _)
  have d0 : decide ((s.length : Int) < 1) = false := decide_eq_false (by omega)
  have d0' : decide (s.length < 1) = false := decide_eq_false (by omega)
  have d0e : (s.length == 0) = false := by rw [beq_eq_false_iff_ne]; omega
  by_cases h16 : 16 < s.length
  · have d1 : decide ((16 : Int) < (s.length : Int)) = true := decide_eq_true (by omega)
    have d1' : decide (16 < s.length) = true := decide_eq_true (by omega)
    have HN : Hid (numP s = none) := by show _ = _; unfold numP; rw [if_pos (.inr (.inl h16))]
    go_enter Tryz.func43, Tryz.ntmps43
    go_wp2_with fail
    go_ret2
    exact NumPost.none HN.out (Below.refl _ _)
  have d1 : decide ((16 : Int) < (s.length : Int)) = false := decide_eq_false (by omega)
  have d1' : decide (16 < s.length) = false := decide_eq_false (by omega)
  have hi0 := fun W => run_index_strB s (k := 0) (by omega) W
  unfold gb at hi0
  have hh : s.head? = some (s.getD 0 0) := by cases s with | nil => exact (h0 (by simp)).elim | cons a l => rfl
  have hi0' : ∀ W : World, (Instr.index 9 (.string (strB s)) (.int .i64 0)).run Tryz.prog W = .ok (.int .u8 ((s.getD 0 0).toNat : Int)) W := hi0
  clear hi0
  obtain ⟨b0, hb0⟩ : ∃ b0, b0 = s.getD 0 0 := ⟨_, rfl⟩
  rw [← hb0] at hi0' hh
  clear hb0
  by_cases hz : 1 < s.length ∧ b0 = 48
  · have d2 : decide ((1 : Int) < (s.length : Int)) = true := decide_eq_true (by omega)
    have d2' : decide (1 < s.length) = true := decide_eq_true (by omega)
    have q2 : ((b0.toNat : Int) == 48) = true := by rw [hz.2]; rfl
    have HN : Hid (numP s = none) := by show _ = _; unfold numP; rw [if_pos (.inr (.inr ⟨hz.1, by rw [hh, hz.2]⟩))]
    clear hz hh
    go_enter Tryz.func43, Tryz.ntmps43
    go_wp2_with fail
    go_ret2
    exact NumPost.none HN.out (Below.refl _ _)
  have HL := Lib.hid (numP_loop (s := s) (by omega) (by omega) (by rintro ⟨h1, h2⟩; rw [hh] at h2; injection h2 with h2; exact hz ⟨h1, h2⟩))
  have HI := Lib.hid (fun k hk W => run_index_strB s (k := k) hk W)
  have hst : Hid (digY s 0 = digY (s.drop 0) 0) := rfl
  have q2 : decide (1 < s.length) = true → ((b0.toNat : Int) == 48) = false := fun h => by
    simp only [beq_eq_false_iff_ne, ne_eq]
    intro e
    refine hz ⟨by simpa using h, UInt8.toNat_inj.1 ?_⟩
    have : b0.toNat = 48 := by omega
    rw [this]; rfl
  have Hq2 := Lib.hid q2
  have hone : ∀ (c : Bool), c = decide (1 < s.length) → ∃ q, q = (c && ((b0.toNat : Int) == 48)) ∧ q = false := fun c hc => by
    cases c with
    | false => exact ⟨_, rfl, rfl⟩
    | true => exact ⟨_, rfl, by rw [q2 hc.symm]; rfl⟩
  clear hh q2 hone hz
  have body : ∀ (d : Bool), d = decide (1 < s.length) → Calls Tryz.prog 43 #[.string (strB s)] w (NumPost s w) := by
    intro d hd
    cases d with
    | false =>
      have d2' : decide (1 < s.length) = false := hd.symm
      have d2 : decide ((1 : Int) < (s.length : Int)) = false := decide_eq_false (by have := of_decide_eq_false d2'; omega)
      clear hd Hq2
      go_enter Tryz.func43, Tryz.ntmps43
      go_wp2_with fail
      go_loop [4, 5] (fun v i => ∃ k N : Nat, k ≤ s.length ∧ i = .int .i64 (k : Int) ∧ v = .int .i64 (N : Int) ∧ N < 10 ^ k ∧ Hid (digY s 0 = digY (s.drop k) N)) (fun _ i => s.length - (intOf i).toNat)
      case atStart => exact ⟨0, 0, Nat.zero_le _, rfl, rfl, by simp, hst⟩
      case round =>
        obtain ⟨k, N, hk, rfl, rfl, hN, HD⟩ := hrel
        have hN16 : N < 10000000000000000 := Nat.lt_of_lt_of_le hN (Nat.pow_le_pow_right (n := 10) (by decide) (show k ≤ 16 by omega))
        by_cases hlt : k < s.length
        · have e0 : decide ((k : Int) < (s.length : Int)) = true := decide_eq_true (by omega)
          have e0' : decide (k < s.length) = true := decide_eq_true (by omega)
          have hi := HI.out k hlt
          unfold gb at hi
          have hd := HD.out
          rw [drop_getD hlt] at hd
          obtain ⟨b, hb⟩ : ∃ b, b = s.getD k 0 := ⟨_, rfl⟩
          rw [← hb] at hi hd
          clear hb
          by_cases hbad : b < 48 ∨ 57 < b
          · rw [digY_none hbad] at hd
            have HN : Hid (numP s = none) := by show _ = _; rw [HL.out, hd]; rfl
            have hb2 : b.toNat < 48 ∨ 57 < b.toNat := by
              rw [UInt8.lt_iff_toNat_lt, UInt8.lt_iff_toNat_lt] at hbad
              exact hbad
            clear hd hbad hN
            by_cases hlo : b.toNat < 48
            · have f1 : decide ((b.toNat : Int) < 48) = true := decide_eq_true (by omega)
              go_wp2_with fail
              go_ret2
              exact NumPost.none HN.out (Below.refl _ _)
            · have f1 : decide ((b.toNat : Int) < 48) = false := decide_eq_false (by omega)
              have f2 : decide ((57 : Int) < (b.toNat : Int)) = true := decide_eq_true (by omega)
              go_wp2_with fail
              go_ret2
              exact NumPost.none HN.out (Below.refl _ _)
          · have hok := digOk.1 hbad
            rw [digY, if_neg hbad] at hd
            have f1 : decide ((b.toNat : Int) < 48) = false := decide_eq_false (by omega)
            have f2 : decide ((57 : Int) < (b.toNat : Int)) = false := decide_eq_false (by omega)
            have hw8 := sub48 b hok.1 hok.2
            obtain ⟨dd, hdd⟩ : ∃ dd, dd = b.toNat - 48 := ⟨_, rfl⟩
            rw [← hdd] at hw8 hd
            have hd9 : dd ≤ 9 := by omega
            have HD2 : Hid (digY s 0 = digY (s.drop (k + 1)) (10 * N + dd)) := hd
            have hN2 : 10 * N + dd < 10 ^ (k + 1) := by rw [Nat.pow_succ]; omega
            have HN2 := Lib.hid hN2
            clear hd hbad hdd hN hN2 hok
            go_wp2_with fail
            go_round
            case rel => exact ⟨k + 1, 10 * N + dd, by omega, by go_num, by go_num, HN2.out, HD2⟩
            case measure => (simp [intOf]) <;> omega
        · obtain rfl : k = s.length := by omega
          have e0 : decide ((s.length : Int) < (s.length : Int)) = false := by simp
          have hd := HD.out
          rw [List.drop_length] at hd
          have hnp : numP s = if N ≤ 9007199254740991 then some N else none := by rw [HL.out, hd]; rfl
          by_cases hm : N ≤ 9007199254740991
          · have f1 : decide ((N : Int) ≤ 9007199254740991) = true := decide_eq_true (by omega)
            have f1' : decide (N ≤ 9007199254740991) = true := decide_eq_true (by omega)
            rw [if_pos hm] at hnp
            have HN := Lib.hid hnp
            clear hnp hd hm
            go_wp2_with fail
            go_ret2
            exact NumPost.some HN.out (Below.refl _ _)
          · have f1 : decide ((N : Int) ≤ 9007199254740991) = false := decide_eq_false (by omega)
            have f1' : decide (N ≤ 9007199254740991) = false := decide_eq_false (by omega)
            rw [if_neg hm] at hnp
            have HN := Lib.hid hnp
            clear hnp hd hm
            go_wp2_with fail
            go_ret2
            exact NumPost.none HN.out (Below.refl _ _)
    | true =>
      have d2' : decide (1 < s.length) = true := hd.symm
      have d2 : decide ((1 : Int) < (s.length : Int)) = true := decide_eq_true (by have := of_decide_eq_true d2'; omega)
      have q2 := Hq2.out d2'
      clear hd Hq2
      go_enter Tryz.func43, Tryz.ntmps43
      go_wp2_with fail
      go_loop [4, 5] (fun v i => ∃ k N : Nat, k ≤ s.length ∧ i = .int .i64 (k : Int) ∧ v = .int .i64 (N : Int) ∧ N < 10 ^ k ∧ Hid (digY s 0 = digY (s.drop k) N)) (fun _ i => s.length - (intOf i).toNat)
      case atStart => exact ⟨0, 0, Nat.zero_le _, rfl, rfl, by simp, hst⟩
      case round =>
        obtain ⟨k, N, hk, rfl, rfl, hN, HD⟩ := hrel
        have hN16 : N < 10000000000000000 := Nat.lt_of_lt_of_le hN (Nat.pow_le_pow_right (n := 10) (by decide) (show k ≤ 16 by omega))
        by_cases hlt : k < s.length
        · have e0 : decide ((k : Int) < (s.length : Int)) = true := decide_eq_true (by omega)
          have e0' : decide (k < s.length) = true := decide_eq_true (by omega)
          have hi := HI.out k hlt
          unfold gb at hi
          have hd := HD.out
          rw [drop_getD hlt] at hd
          obtain ⟨b, hb⟩ : ∃ b, b = s.getD k 0 := ⟨_, rfl⟩
          rw [← hb] at hi hd
          clear hb
          by_cases hbad : b < 48 ∨ 57 < b
          · rw [digY_none hbad] at hd
            have HN : Hid (numP s = none) := by show _ = _; rw [HL.out, hd]; rfl
            have hb2 : b.toNat < 48 ∨ 57 < b.toNat := by
              rw [UInt8.lt_iff_toNat_lt, UInt8.lt_iff_toNat_lt] at hbad
              exact hbad
            clear hd hbad hN
            by_cases hlo : b.toNat < 48
            · have f1 : decide ((b.toNat : Int) < 48) = true := decide_eq_true (by omega)
              go_wp2_with fail
              go_ret2
              exact NumPost.none HN.out (Below.refl _ _)
            · have f1 : decide ((b.toNat : Int) < 48) = false := decide_eq_false (by omega)
              have f2 : decide ((57 : Int) < (b.toNat : Int)) = true := decide_eq_true (by omega)
              go_wp2_with fail
              go_ret2
              exact NumPost.none HN.out (Below.refl _ _)
          · have hok := digOk.1 hbad
            rw [digY, if_neg hbad] at hd
            have f1 : decide ((b.toNat : Int) < 48) = false := decide_eq_false (by omega)
            have f2 : decide ((57 : Int) < (b.toNat : Int)) = false := decide_eq_false (by omega)
            have hw8 := sub48 b hok.1 hok.2
            obtain ⟨dd, hdd⟩ : ∃ dd, dd = b.toNat - 48 := ⟨_, rfl⟩
            rw [← hdd] at hw8 hd
            have hd9 : dd ≤ 9 := by omega
            have HD2 : Hid (digY s 0 = digY (s.drop (k + 1)) (10 * N + dd)) := hd
            have hN2 : 10 * N + dd < 10 ^ (k + 1) := by rw [Nat.pow_succ]; omega
            have HN2 := Lib.hid hN2
            clear hd hbad hdd hN hN2 hok
            go_wp2_with fail
            go_round
            case rel => exact ⟨k + 1, 10 * N + dd, by omega, by go_num, by go_num, HN2.out, HD2⟩
            case measure => (simp [intOf]) <;> omega
        · obtain rfl : k = s.length := by omega
          have e0 : decide ((s.length : Int) < (s.length : Int)) = false := by simp
          have hd := HD.out
          rw [List.drop_length] at hd
          have hnp : numP s = if N ≤ 9007199254740991 then some N else none := by rw [HL.out, hd]; rfl
          by_cases hm : N ≤ 9007199254740991
          · have f1 : decide ((N : Int) ≤ 9007199254740991) = true := decide_eq_true (by omega)
            have f1' : decide (N ≤ 9007199254740991) = true := decide_eq_true (by omega)
            rw [if_pos hm] at hnp
            have HN := Lib.hid hnp
            clear hnp hd hm
            go_wp2_with fail
            go_ret2
            exact NumPost.some HN.out (Below.refl _ _)
          · have f1 : decide ((N : Int) ≤ 9007199254740991) = false := decide_eq_false (by omega)
            have f1' : decide (N ≤ 9007199254740991) = false := decide_eq_false (by omega)
            rw [if_neg hm] at hnp
            have HN := Lib.hid hnp
            clear hnp hd hm
            go_wp2_with fail
            go_ret2
            exact NumPost.none HN.out (Below.refl _ _)
  exact body _ rfl

theorem strB_append (x y : List UInt8) : strB x ++ strB y = strB (x ++ y) := by
  apply ByteArray.ext
  simp [strB]
theorem uB8 : Tryz.prog.underlying 23 = some (.slice 5) := Tryz.underlying23
set_option maxRecDepth 100000 in
set_option maxHeartbeats 1000000 in
theorem refDecimal_any (n : Nat) : ∀ (w : World), n ≤ 4294967296 → Calls Tryz.prog 47 #[.int .i64 (n : Int)] w fun e w' => e = .returned (.string (strB (decS n))) ∧ Below w.heap.size w w' := by
  induction n using Nat.strongRecOn with
  | _ n ih =>
    intro w hn
    by_cases h : n < 10
    · have d0 : decide ((n : Int) < 10) = true := decide_eq_true (by omega)
      have d0' : decide (n < 10) = true := decide_eq_true (by omega)
      have hD : Hid (decS n = [digB n]) := decS_small h
      have hw8 : IntKind.u8.wrap (48 + (n : Int)) = ((digB n).toNat : Int) := by
        rw [digB_nat h]; simp [IntKind.wrap, IntKind.bits, IntKind.signed]; omega
      have hby : Bytes (w.alloc (.cells #[.int .u8 ((digB n).toNat : Int)] 5)) (some ⟨w.heap.size, 0, none⟩) 1 1 [digB n] := by
        refine ⟨rfl, Nat.le_refl _, fun _ => ⟨w.heap.size, 0, rfl, by rw [World.size_alloc]; omega, fun i hi => ?_⟩⟩
        obtain rfl : i = 0 := by omega
        exact (rowV.new w 5 #[.int .u8 ((digB n).toNat : Int)]).cell rfl
      have r1 := hby.str 23 5 9 uB8 Tryz.underlying5 Tryz.underlying9
      have HB := Lib.hid (balloc (Below.refl w.heap.size w) (.cells #[.int .u8 ((digB n).toNat : Int)] 5))
      rw [hD.out]
      obtain ⟨dz, hdz⟩ : ∃ dz, dz = ((digB n).toNat : Int) := ⟨_, rfl⟩
      rw [← hdz] at hw8 r1 HB
      clear hby hdz ih
      go_enter Tryz.func47, Tryz.ntmps47
      go_wp2_with fail
      go_ret
      exact ⟨rfl, HB.out⟩
    · have d0 : decide ((n : Int) < 10) = false := decide_eq_false (by omega)
      have d0' : decide (n < 10) = false := decide_eq_false (by omega)
      have hD : Hid (decS n = decS (n / 10) ++ decS (n % 10)) := by show _ = _; rw [decS_big h, decS_small (n := n % 10) (by omega)]
      have H1 := Lib.hid (ih (n / 10) (by omega) w (by omega))
      have H2 := Lib.hid (fun W => ih (n % 10) (by omega) W (by omega))
      have e1 : (n : Int) / 10 = ((n / 10 : Nat) : Int) := by omega
      have e2 : (n : Int) % 10 = ((n % 10 : Nat) : Int) := by omega
      have e3 : (n : Int).tdiv 10 = ((n / 10 : Nat) : Int) := by rw [Int.tdiv_eq_ediv_of_nonneg (by omega)]; omega
      have e4 : (n : Int).tmod 10 = ((n % 10 : Nat) : Int) := by rw [Int.tmod_eq_emod_of_nonneg (by omega)]; omega
      rw [hD.out]
      obtain ⟨x, hx⟩ : ∃ x, x = n / 10 := ⟨_, rfl⟩
      obtain ⟨y, hy⟩ : ∃ y, y = n % 10 := ⟨_, rfl⟩
      rw [← hx] at H1 e1 e3
      rw [← hy] at H2 e2 e4
      have hlx := decS_len 9 x (by omega)
      have hly := decS_len 9 y (by omega)
      have hcat : ¬ 9223372036854775807 < (strB (decS x)).size + (strB (decS y)).size := by
        have h1 : (strB (decS x)).size = (decS x).length := rfl
        have h2 : (strB (decS y)).size = (decS y).length := rfl
        omega
      rw [← hx, ← hy]
      clear ih hx hy
      go_enter Tryz.func47, Tryz.ntmps47
      go_wp2_with fail
      refine H1.out.mono ?_
      rintro e w1 ⟨rfl, hb1⟩
      go_wp2_with fail
      refine (H2.out _).mono ?_
      rintro e w2 ⟨rfl, hb2⟩
      go_wp2_with fail
      go_ret
      exact ⟨congrArg (fun z => Ending.returned (Value.string z)) (strB_append _ _), hb1.trans (hb2.mono hb1.size)⟩
set_option maxRecDepth 100000 in
set_option maxHeartbeats 1000000 in
theorem refSame_any (A B : Option Addr) (n c n' c' : Nat) (l m : List Stg) (w : World) (hx : Stgs w A n c l) (hy : Stgs w B n' c' m) (hnb : n ≤ 1000000000000) : Calls Tryz.prog 25 #[.slice A n c, .slice B n' c'] w fun e w' => e = .returned (.bool (decide (l = m))) ∧ Below w.heap.size w w' := by
  have hl := hx.1
  have hl' := hy.1
  by_cases hn : n = n'
  · subst hn
    have q0 : ((n : Int) == (n : Int)) = true := by simp
    have HX := Lib.hid hx
    have HY := Lib.hid hy
    clear hx hy
    go_enter Tryz.func25, Tryz.ntmps25
    go_wp2_with fail
    go_loopw [5] (fun i wr => ∃ k : Nat, k ≤ n ∧ i = .int .i64 (k : Int) ∧ Hid (∀ j, j < k → sG l j = sG m j) ∧ Hid (∃ q, wr = w.drewN q)) (fun i _ => n - (intOf i).toNat)
    case atStart => exact ⟨0, Nat.zero_le _, rfl, Lib.hid (fun j hj => absurd hj (Nat.not_lt_zero _)), Lib.hid ⟨0, rfl⟩⟩
    case round =>
      obtain ⟨k, hk, rfl, HA, HQ⟩ := hrel
      obtain ⟨q, rfl⟩ := HQ.out
      by_cases hlt : k < n
      · have d0 : decide ((k : Int) < (n : Int)) = true := decide_eq_true (by omega)
        have d0' : decide (k < n) = true := decide_eq_true (by omega)
        obtain ⟨b1, o1, rfl, -, c1, c2⟩ := HX.out.cell hlt
        obtain ⟨b2, o2, rfl, -, c3, c4⟩ := HY.out.cell hlt
        obtain ⟨⟨x1, x2⟩, hxs⟩ : ∃ x, x = sG l k := ⟨_, rfl⟩
        obtain ⟨⟨y1, y2⟩, hys⟩ : ∃ y, y = sG m k := ⟨_, rfl⟩
        rw [← hxs] at c1 c2
        rw [← hys] at c3 c4
        dsimp only at c1 c2 c3 c4
        have HXY := Lib.hid (And.intro hxs hys)
        clear hxs hys
        by_cases he : x1 = y1 ∧ x2 = y2
        · have e1 : (x1 == y1) = true := by simpa using he.1
          have e2 : (x2 == y2) = true := by simpa using he.2
          have HE : Hid (sG l k = sG m k) := by show _ = _; rw [← HXY.out.1, ← HXY.out.2, he.1, he.2]
          clear he
          go_wp2_with fail
          go_quiet (fail)
          obtain ⟨nqa, hnqa⟩ : ∃ x, x = nq := ⟨_, rfl⟩
          rw [← hnqa]
          clear hnqa
          go_wp2_with fail
          go_roundw
          case rel =>
            refine ⟨k + 1, by omega, by go_num, Lib.hid (fun j hj => ?_), Lib.hid ⟨_, rfl⟩⟩
            by_cases e : j = k
            · subst e; exact HE.out
            · exact HA.out j (by omega)
          case measure => (simp [intOf]) <;> omega
        · have hne : l ≠ m := fun e => he (by have h1 := HXY.out.1; have h2 := HXY.out.2; rw [e, ← h2] at h1; injection h1 with h3 h4; exact ⟨h3, h4⟩)
          have HD : Hid (decide (l = m) = false) := decide_eq_false hne
          have e12 : (x1 == y1 && x2 == y2) = false := by
            cases h1 : (x1 == y1) with
            | false => rfl
            | true =>
              cases h2 : (x2 == y2) with
              | false => rfl
              | true => exact absurd ⟨by simpa using h1, by simpa using h2⟩ he
          by_cases h1 : x1 = y1
          · have e1 : (x1 == y1) = true := by simpa using h1
            have e2 : (x2 == y2) = false := by rw [e1] at e12; simpa using e12
            clear hne he h1
            go_wp2_with fail
            go_quiet (fail)
            obtain ⟨nqa, hnqa⟩ : ∃ x, x = nq := ⟨_, rfl⟩
            rw [← hnqa]
            clear hnqa
            go_wp2_with fail
            rw [HD.out]
            go_ret
            exact ⟨rfl, bdrew (bdrew (Below.refl _ _) _) _⟩
          · have e1 : (x1 == y1) = false := by simpa using h1
            clear hne he h1
            go_wp2_with fail
            go_quiet (fail)
            obtain ⟨nqa, hnqa⟩ : ∃ x, x = nq := ⟨_, rfl⟩
            rw [← hnqa]
            clear hnqa
            go_wp2_with fail
            rw [HD.out]
            go_ret
            exact ⟨rfl, bdrew (bdrew (Below.refl _ _) _) _⟩
      · obtain rfl : k = n := by omega
        have d0 : decide ((k : Int) < (k : Int)) = false := by simp
        have HD : Hid (decide (l = m) = true) := decide_eq_true (List.ext_getElem (by omega) fun j h1 h2 => by
          have := HA.out j (by omega)
          unfold sG at this
          rwa [List.getD_eq_getElem?_getD, List.getD_eq_getElem?_getD, List.getElem?_eq_getElem h1, List.getElem?_eq_getElem h2] at this)
        go_wp2_with fail
        rw [HD.out]
        go_ret
        exact ⟨rfl, bdrew (Below.refl _ _) _⟩
  · have q0 : ((n : Int) == (n' : Int)) = false := by simp; omega
    have q0' : (n == n') = false := by simpa using hn
    have HD : Hid (decide (l = m) = false) := decide_eq_false (fun e => hn (by rw [← hl, ← hl', e]))
    clear hn
    go_enter Tryz.func25, Tryz.ntmps25
    go_wp2_with fail
    rw [HD.out]
    go_ret
    exact ⟨rfl, Below.refl _ _⟩
end Go.Proofs.YtckkmafppfcecaaGreatDoor
