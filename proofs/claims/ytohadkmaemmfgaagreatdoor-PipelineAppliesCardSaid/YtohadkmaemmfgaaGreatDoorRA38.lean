/- Ua Ub Ud Uc. -/
import Derived.Test.YtohadkmaemmfgaaGreatDoorRA09
import Derived.Test.YtohadkmaemmfgaaGreatDoorRA00
import Derived.Test.YtohadkmaemmfgaaGreatDoorRA37
import Derived.Test.YtohadkmaemmfgaaGreatDoorRA29
import Derived.Deep.RegionLaw
import Derived.Test.YtohadkmaemmfgaaGreatDoorRA11
set_option maxRecDepth 100000
set_option maxHeartbeats 4000000
namespace Go.Proofs.YtohadkmaemmfgaaGreatDoor
open Go.RowKit Go.Proofs
set_option linter.unusedVariables false
set_option linter.unusedSimpArgs false
theorem limits38_any (A : Option Addr) (n c : Nat) (wd : Int) (w : World) : Calls Tryz.prog 101 #[.slice A n c, .int .i64 wd, .int .i64 0] w fun e w' => e = .returned (.int .i64 (limD n wd)) ∧ w' = w := by
  unfold limD
  by_cases h0 : 65536 < n
  · have d0 : decide ((65536 : Int) < (n : Int)) = true := decide_eq_true (by omega)
    have d0' : decide (65536 < n) = true := decide_eq_true (by omega)
    rw [if_pos h0]
    clear h0
    go_enter Tryz.func101, Tryz.ntmps101
    go_wp2_with fail
    go_ret
    exact ⟨rfl, rfl⟩
  · have d0 : decide ((65536 : Int) < (n : Int)) = false := decide_eq_false (by omega)
    have d0' : decide (65536 < n) = false := decide_eq_false (by omega)
    rw [if_neg h0]
    clear h0
    by_cases h1 : wd < 1
    · have d1 : decide (wd < 1) = true := decide_eq_true h1
      rw [if_pos (.inl h1)]
      clear h1
      go_enter Tryz.func101, Tryz.ntmps101
      go_wp2_with fail
      go_ret
      exact ⟨rfl, rfl⟩
    · have d1 : decide (wd < 1) = false := decide_eq_false h1
      by_cases h2 : 64 < wd
      · have d2 : decide (64 < wd) = true := decide_eq_true h2
        rw [if_pos (.inr h2)]
        clear h1 h2
        go_enter Tryz.func101, Tryz.ntmps101
        go_wp2_with fail
        go_ret
        exact ⟨rfl, rfl⟩
      · have d2 : decide (64 < wd) = false := decide_eq_false h2
        rw [if_neg (by omega)]
        clear h1 h2
        go_enter Tryz.func101, Tryz.ntmps101
        go_wp2_with fail
        go_ret
        exact ⟨rfl, rfl⟩
theorem dlI_next (w : Nat) (bs : List UInt8) (k : Nat) : (List.range (k + 1)).map (dfI w bs) = (List.range k).map (dfI w bs) ++ [dfI w bs k] := by rw [List.range_succ, List.map_append]; rfl
theorem dlF_next (w : Nat) (bs : List UInt8) (k : Nat) : (List.range (k + 1)).map (dfF w bs) = (List.range k).map (dfF w bs) ++ [dfF w bs k] := by rw [List.range_succ, List.map_append]; rfl
theorem rangeA {f : Nat → UInt8} {k j : Nat} (h : j < k) : bA ((List.range k).map f) j = f j := by unfold bA; simp [List.getD, h]
theorem ref38I_any (A : Option Addr) (n c : Nat) (wd : Int) (bs : List UInt8) (w : World) (hx : Bytes w A n c bs) (hn : n ≤ 1000000) :
    Calls Tryz.prog 47 #[.slice A n c, .int .i64 wd] w (RetBytes w (if limD n wd = 0 then deltaI wd.toNat bs else []) (limD n wd)) := by
  have HL := limits38_any A n c wd w
  have Hn := Lib.hid hx.1
  by_cases h0 : limD n wd = 0
  · rw [if_pos h0]
    rw [h0] at HL ⊢
    replace HL := Lib.hid HL
    have hw1 : 1 ≤ wd ∧ wd ≤ 64 := by unfold limD at h0; split at h0; (cases h0); split at h0; (cases h0); omega
    obtain ⟨wn, rfl⟩ : ∃ wn : Nat, wd = (wn : Int) := ⟨wd.toNat, by omega⟩
    rw [Int.toNat_natCast]
    have HX := Lib.hid hx
    clear hx h0
    go_enter Tryz.func47, Tryz.ntmps47
    go_wp2_with fail
    refine HL.out.mono ?_
    rintro e w1 ⟨rfl, hw⟩
    obtain rfl : w = w1 := hw.symm
    go_wp2_with fail
    go_loopw [7, 8] (fun vo vi wr => ∃ (k c2 : Nat) (A2 : Option Addr), k ≤ n ∧ vi = .int .i64 (k : Int) ∧ vo = .slice A2 k c2 ∧ Hid (Own encB wr w.heap.size 5 A2 k c2 ((List.range k).map (dfI wn bs)) ∧ Below w.heap.size w wr)) (fun _ vi _ => n - (intOf vi).toNat)
    case atStart => exact ⟨0, 0, none, Nat.zero_le _, rfl, rfl, Lib.hid ⟨Own.nil _ _ _ _, Below.refl _ _⟩⟩
    case round =>
      obtain ⟨k, c2, A2, hk, rfl, rfl, HI⟩ := hrel
      by_cases hlt : k < n
      · have d1 : decide ((k : Int) < (n : Int)) = true := decide_eq_true (by omega)
        have d1' : decide (k < n) = true := decide_eq_true hlt
        obtain ⟨b1, o1, rfl, hb1, hc1⟩ := (HX.out.below HI.out.2).get hlt
        obtain ⟨x, hxd⟩ : ∃ x, x = bA bs k := ⟨_, rfl⟩
        have c1 : wr.cell? ⟨b1, o1 + k, none⟩ = some (.int .u8 (x.toNat : Int)) := by rw [hxd]; exact hc1 k hlt
        have m1 : Hid (k + 1 ≤ maxLen ∧ (k + 1) * 1 ≤ 140737488355328) := ⟨by simp [maxLen]; omega, by omega⟩
        have hx256 := x.toNat_lt
        have HOWN := Lib.hid HI.out.1
        have HB := Lib.hid HI.out.2.size
        clear hc1
        by_cases hw : k < wn
        · have d2 : decide ((wn : Int) ≤ (k : Int)) = false := decide_eq_false (by omega)
          have d2' : decide (wn ≤ k) = false := decide_eq_false (by omega)
          have HNX : Hid ((List.range (k + 1)).map (dfI wn bs) = (List.range k).map (dfI wn bs) ++ [x]) := by show _ = _; rw [dlI_next, dfI_lo hw, hxd]
          clear hxd hw
          go_wp2_with (at_builtin; refine wpList_pushv (enc := encB) rfl (.tmp 38) (.tmp 43) rfl uB infoB encB_one rfl rfl HOWN.out HB.out x _ rfl rfl m1.out.1 m1.out.2 ?_; intro A6 c6 W6 ho6 hb6)
          have HF6 : Hid (Own encB W6 w.heap.size 5 A6 (k + 1) c6 ((List.range (k + 1)).map (dfI wn bs)) ∧ Below w.heap.size w W6) := ⟨by rw [HNX.out]; exact ho6, HI.out.2.trans hb6⟩
          clear ho6 hb6
          go_roundw
          case rel => exact ⟨k + 1, c6, A6, by omega, by go_num, rfl, HF6⟩
          case measure => (simp [intOf]) <;> omega
        · have d2 : decide ((wn : Int) ≤ (k : Int)) = true := decide_eq_true (by omega)
          have d2' : decide (wn ≤ k) = true := decide_eq_true (by omega)
          obtain ⟨p, hp⟩ : ∃ p, p = k - wn := ⟨_, rfl⟩
          have hpk : p < k := by omega
          have hpn : p < n := by omega
          have hpi : (k : Int) - (wn : Int) = (p : Int) := by omega
          have hwp : IntKind.i64.wrap (p : Int) = (p : Int) := by rw [IntKind.wrap_i64]; omega
          obtain ⟨b3, o3, rfl, -, hc3⟩ := HI.out.1.bytesB.get hpk
          obtain ⟨y, hyd⟩ : ∃ y, y = dfI wn bs p := ⟨_, rfl⟩
          have c3 : wr.cell? ⟨b3, o3 + p, none⟩ = some (.int .u8 (y.toNat : Int)) := by
            have h := hc3 p hpk
            have e : gb ((List.range k).map (dfI wn bs)) p = (y.toNat : Int) := by rw [hyd]; show ((bA ((List.range k).map (dfI wn bs)) p).toNat : Int) = _; rw [rangeA hpk]
            rw [e] at h; exact h
          have hy256 := y.toNat_lt
          have HNX : Hid ((List.range (k + 1)).map (dfI wn bs) = (List.range k).map (dfI wn bs) ++ [x + y]) := by show _ = _; rw [dlI_next, dfI_hi hw (by omega), hxd, hyd, hp]
          have Hey : Hid (encB (x + y) = .int .u8 (IntKind.u8.wrap ((x.toNat : Int) + (y.toNat : Int)))) := by
            show _ = _
            unfold encB
            rw [UInt8.toNat_add]
            simp [IntKind.wrap, IntKind.bits, IntKind.signed]
          clear hc3 hxd hyd hw hp
          go_wp2_with fail
          go_region_law (first
            | (refine Dic.step_pushv (enc := encB) (bytes := 1) (zero := 0) rfl (.tmp 24) (.tmp 36) rfl uB infoB encB_one rfl rfl (w := wr.drew) HOWN.out.drew HB.out (x + y) _ Hey.out rfl m1.out.1 m1.out.2 ?_; intro A6 c6 W6 ho6 hb6))
          all_goals
            have HF6 : Hid (Own encB W6 w.heap.size 5 A6 (k + 1) c6 ((List.range (k + 1)).map (dfI wn bs)) ∧ Below w.heap.size w W6) := ⟨by rw [HNX.out]; exact ho6, HI.out.2.trans (((Drawn.drewN wr 1).below _).trans hb6)⟩
            clear ho6 hb6
            go_wp2_with fail
            go_roundw
            case rel => exact ⟨k + 1, c6, A6, by omega, by go_num, rfl, HF6⟩
            case measure => (simp [intOf]) <;> omega
      · have d1 : decide ((k : Int) < (n : Int)) = false := decide_eq_false (by omega)
        have d1' : decide (k < n) = false := decide_eq_false hlt
        obtain rfl : k = n := by omega
        have HR : Hid (deltaI wn bs = (List.range k).map (dfI wn bs)) := by show _ = _; unfold deltaI; rw [Hn.out]
        clear hlt
        go_wp2_with fail
        go_ret2
        rw [HR.out]
        exact RetBytes.mk rfl HI.out.1.bytesB HI.out.2
  · rw [if_neg h0]
    have q0 : (limD n wd != 0) = true := by simpa using h0
    obtain ⟨er, her⟩ : ∃ er, er = limD n wd := ⟨_, rfl⟩
    rw [← her] at HL q0 ⊢
    replace HL := Lib.hid HL
    clear her h0 hx
    go_enter Tryz.func47, Tryz.ntmps47
    go_wp2_with fail
    refine HL.out.mono ?_
    rintro e w1 ⟨rfl, hw⟩
    obtain rfl : w = w1 := hw.symm
    go_wp2_with fail
    go_ret2
    exact RetBytes.err rfl (Below.refl _ _)
theorem ref38F_any (A : Option Addr) (n c : Nat) (wd : Int) (bs : List UInt8) (w : World) (hx : Bytes w A n c bs) (hn : n ≤ 1000000) :
    Calls Tryz.prog 48 #[.slice A n c, .int .i64 wd] w (RetBytes w (if limD n wd = 0 then deltaF wd.toNat bs else []) (limD n wd)) := by
  have HL := limits38_any A n c wd w
  have Hn := Lib.hid hx.1
  by_cases h0 : limD n wd = 0
  · rw [if_pos h0]
    rw [h0] at HL ⊢
    replace HL := Lib.hid HL
    have hw1 : 1 ≤ wd ∧ wd ≤ 64 := by unfold limD at h0; split at h0; (cases h0); split at h0; (cases h0); omega
    obtain ⟨wn, rfl⟩ : ∃ wn : Nat, wd = (wn : Int) := ⟨wd.toNat, by omega⟩
    rw [Int.toNat_natCast]
    have HX := Lib.hid hx
    clear hx h0
    go_enter Tryz.func48, Tryz.ntmps48
    go_wp2_with fail
    refine HL.out.mono ?_
    rintro e w1 ⟨rfl, hw⟩
    obtain rfl : w = w1 := hw.symm
    go_wp2_with fail
    go_loopw [7, 8] (fun vo vi wr => ∃ (k c2 : Nat) (A2 : Option Addr), k ≤ n ∧ vi = .int .i64 (k : Int) ∧ vo = .slice A2 k c2 ∧ Hid (Own encB wr w.heap.size 5 A2 k c2 ((List.range k).map (dfF wn bs)) ∧ Below w.heap.size w wr)) (fun _ vi _ => n - (intOf vi).toNat)
    case atStart => exact ⟨0, 0, none, Nat.zero_le _, rfl, rfl, Lib.hid ⟨Own.nil _ _ _ _, Below.refl _ _⟩⟩
    case round =>
      obtain ⟨k, c2, A2, hk, rfl, rfl, HI⟩ := hrel
      by_cases hlt : k < n
      · have d1 : decide ((k : Int) < (n : Int)) = true := decide_eq_true (by omega)
        have d1' : decide (k < n) = true := decide_eq_true hlt
        obtain ⟨b1, o1, rfl, hb1, hc1⟩ := (HX.out.below HI.out.2).get hlt
        obtain ⟨x, hxd⟩ : ∃ x, x = bA bs k := ⟨_, rfl⟩
        have c1 : wr.cell? ⟨b1, o1 + k, none⟩ = some (.int .u8 (x.toNat : Int)) := by rw [hxd]; exact hc1 k hlt
        have m1 : Hid (k + 1 ≤ maxLen ∧ (k + 1) * 1 ≤ 140737488355328) := ⟨by simp [maxLen]; omega, by omega⟩
        have hx256 := x.toNat_lt
        have HOWN := Lib.hid HI.out.1
        have HB := Lib.hid HI.out.2.size
        by_cases hw : k < wn
        · have d2 : decide ((wn : Int) ≤ (k : Int)) = false := decide_eq_false (by omega)
          have d2' : decide (wn ≤ k) = false := decide_eq_false (by omega)
          have HNX : Hid ((List.range (k + 1)).map (dfF wn bs) = (List.range k).map (dfF wn bs) ++ [x]) := by show _ = _; rw [dlF_next, hxd]; unfold dfF; rw [if_pos hw]
          clear hxd hw hc1
          go_wp2_with (at_builtin; refine wpList_pushv (enc := encB) rfl (.tmp 38) (.tmp 43) rfl uB infoB encB_one rfl rfl HOWN.out HB.out x _ rfl rfl m1.out.1 m1.out.2 ?_; intro A6 c6 W6 ho6 hb6)
          have HF6 : Hid (Own encB W6 w.heap.size 5 A6 (k + 1) c6 ((List.range (k + 1)).map (dfF wn bs)) ∧ Below w.heap.size w W6) := ⟨by rw [HNX.out]; exact ho6, HI.out.2.trans hb6⟩
          clear ho6 hb6
          go_roundw
          case rel => exact ⟨k + 1, c6, A6, by omega, by go_num, rfl, HF6⟩
          case measure => (simp [intOf]) <;> omega
        · have d2 : decide ((wn : Int) ≤ (k : Int)) = true := decide_eq_true (by omega)
          have d2' : decide (wn ≤ k) = true := decide_eq_true (by omega)
          obtain ⟨p, hp⟩ : ∃ p, p = k - wn := ⟨_, rfl⟩
          have hpk : p < k := by omega
          have hpn : p < n := by omega
          have hpi : (k : Int) - (wn : Int) = (p : Int) := by omega
          have hwp : IntKind.i64.wrap (p : Int) = (p : Int) := by rw [IntKind.wrap_i64]; omega
          obtain ⟨y, hyd⟩ : ∃ y, y = bA bs p := ⟨_, rfl⟩
          have c3 : wr.cell? ⟨b1, o1 + p, none⟩ = some (.int .u8 (y.toNat : Int)) := by rw [hyd]; exact hc1 p (by omega)
          have hy256 := y.toNat_lt
          have HNX : Hid ((List.range (k + 1)).map (dfF wn bs) = (List.range k).map (dfF wn bs) ++ [x - y]) := by show _ = _; rw [dlF_next, hxd, hyd, hp]; unfold dfF; rw [if_neg hw]
          have Hey : Hid (encB (x - y) = .int .u8 (IntKind.u8.wrap ((x.toNat : Int) - (y.toNat : Int)))) := by
            show _ = _
            unfold encB
            rw [UInt8.toNat_sub]
            simp [IntKind.wrap, IntKind.bits, IntKind.signed]
            omega
          clear hc1 hxd hyd hw hp
          go_wp2_with fail
          go_region_law (first
            | (refine Dic.step_pushv (enc := encB) (bytes := 1) (zero := 0) rfl (.tmp 24) (.tmp 36) rfl uB infoB encB_one rfl rfl (w := wr.drew) HOWN.out.drew HB.out (x - y) _ Hey.out rfl m1.out.1 m1.out.2 ?_; intro A6 c6 W6 ho6 hb6))
          all_goals
            have HF6 : Hid (Own encB W6 w.heap.size 5 A6 (k + 1) c6 ((List.range (k + 1)).map (dfF wn bs)) ∧ Below w.heap.size w W6) := ⟨by rw [HNX.out]; exact ho6, HI.out.2.trans (((Drawn.drewN wr 1).below _).trans hb6)⟩
            clear ho6 hb6
            go_wp2_with fail
            go_roundw
            case rel => exact ⟨k + 1, c6, A6, by omega, by go_num, rfl, HF6⟩
            case measure => (simp [intOf]) <;> omega
      · have d1 : decide ((k : Int) < (n : Int)) = false := decide_eq_false (by omega)
        have d1' : decide (k < n) = false := decide_eq_false hlt
        obtain rfl : k = n := by omega
        have HR : Hid (deltaF wn bs = (List.range k).map (dfF wn bs)) := by show _ = _; unfold deltaF; rw [Hn.out]
        clear hlt
        go_wp2_with fail
        go_ret2
        rw [HR.out]
        exact RetBytes.mk rfl HI.out.1.bytesB HI.out.2
  · rw [if_neg h0]
    have q0 : (limD n wd != 0) = true := by simpa using h0
    obtain ⟨er, her⟩ : ∃ er, er = limD n wd := ⟨_, rfl⟩
    rw [← her] at HL q0 ⊢
    replace HL := Lib.hid HL
    clear her h0 hx
    go_enter Tryz.func48, Tryz.ntmps48
    go_wp2_with fail
    refine HL.out.mono ?_
    rintro e w1 ⟨rfl, hw⟩
    obtain rfl : w = w1 := hw.symm
    go_wp2_with fail
    go_ret2
    exact RetBytes.err rfl (Below.refl _ _)
theorem limits39_any (n : Nat) (wd : Int) (w : World) : Calls Tryz.prog 102 #[.int .i64 (n : Int), .int .i64 wd] w fun e w' => e = .returned (.int .i64 (limD n wd)) ∧ w' = w := by
  unfold limD
  by_cases h0 : 65536 < n
  · have d0 : decide ((65536 : Int) < (n : Int)) = true := decide_eq_true (by omega)
    have d0' : decide (65536 < n) = true := decide_eq_true (by omega)
    rw [if_pos h0]
    clear h0
    go_enter Tryz.func102, Tryz.ntmps102
    go_wp2_with fail
    go_ret
    exact ⟨rfl, rfl⟩
  · have d0 : decide ((65536 : Int) < (n : Int)) = false := decide_eq_false (by omega)
    have d0' : decide (65536 < n) = false := decide_eq_false (by omega)
    rw [if_neg h0]
    clear h0
    by_cases h1 : wd < 1
    · have d1 : decide (wd < 1) = true := decide_eq_true h1
      rw [if_pos (.inl h1)]
      clear h1
      go_enter Tryz.func102, Tryz.ntmps102
      go_wp2_with fail
      go_ret
      exact ⟨rfl, rfl⟩
    · have d1 : decide (wd < 1) = false := decide_eq_false h1
      by_cases h2 : 64 < wd
      · have d2 : decide (64 < wd) = true := decide_eq_true h2
        rw [if_pos (.inr h2)]
        clear h1 h2
        go_enter Tryz.func102, Tryz.ntmps102
        go_wp2_with fail
        go_ret
        exact ⟨rfl, rfl⟩
      · have d2 : decide (64 < wd) = false := decide_eq_false h2
        rw [if_neg (by omega)]
        clear h1 h2
        go_enter Tryz.func102, Tryz.ntmps102
        go_wp2_with fail
        go_ret
        exact ⟨rfl, rfl⟩
def nI (xs : List Nat) : List Int := xs.map (fun x : Nat => (x : Int))
theorem nI_length (xs : List Nat) : (nI xs).length = xs.length := by unfold nI; rw [List.length_map]
theorem nI_snoc (xs : List Nat) (y : Nat) : nI (xs ++ [y]) = nI xs ++ [(y : Int)] := by unfold nI; rw [List.map_append]; rfl
theorem gi_nI {xs : List Nat} {k : Nat} (h : k < xs.length) : gi (nI xs) k = (oN xs k : Int) := by unfold gi nI oN; simp [List.getD, h]
theorem order39_any (n wn : Nat) (w : World) (hn : n ≤ 1000000) (hw : 1 ≤ wn) (hw2 : wn ≤ 64) :
    Calls Tryz.prog 103 #[.int .i64 (n : Int), .int .i64 (wn : Int)] w fun e w' => ∃ A c, e = .returned (.slice A n c) ∧ Own (Value.int .i64) w' w.heap.size 3 A n c (nI (colL n wn)) ∧ Below w.heap.size w w' := by
  have HLEN := Lib.hid (colL_length (n := n) (w := wn) (by omega))
  go_enter Tryz.func103, Tryz.ntmps103
  go_wp2_with fail
  go_loopw [5, 6, 7] (fun vo vc _ wr => ∃ (cc m c2 : Nat) (A2 : Option Addr) (xs : List Nat), cc ≤ wn ∧ vc = .int .i64 (cc : Int) ∧ vo = .slice A2 m c2 ∧ Hid (Own (Value.int .i64) wr w.heap.size 3 A2 m c2 (nI xs) ∧ xs ++ colFrom n wn wn cc = colL n wn ∧ Below w.heap.size w wr)) (fun _ vc _ _ => wn - (intOf vc).toNat)
  case atStart => exact ⟨0, 0, 0, none, [], Nat.zero_le _, rfl, rfl, Lib.hid ⟨(by show Own _ _ _ _ _ _ _ []; exact Own.nil _ _ _ _), rfl, Below.refl _ _⟩⟩
  case round =>
    obtain ⟨cc, m, c2, A2, xs, hcc, rfl, rfl, HI⟩ := hrel
    by_cases hlt : cc < wn
    · have d1 : decide ((cc : Int) < (wn : Int)) = true := decide_eq_true (by omega)
      have d1' : decide (cc < wn) = true := decide_eq_true hlt
      have HC : Hid (xs ++ (upB n wn cc ++ colFrom n wn wn (cc + 1)) = colL n wn) := by show _ = _; rw [← colFrom_more hlt]; exact HI.out.2.1
      go_wp2_with fail
      go_loopw [5, 7] (fun vo vi wr => ∃ (i m c2 : Nat) (A2 : Option Addr) (xs : List Nat), i ≤ n + 64 ∧ vi = .int .i64 (i : Int) ∧ vo = .slice A2 m c2 ∧ Hid (Own (Value.int .i64) wr w.heap.size 3 A2 m c2 (nI xs) ∧ xs ++ (upB n wn i ++ colFrom n wn wn (cc + 1)) = colL n wn ∧ Below w.heap.size w wr)) (fun _ vi _ => n + 64 - (intOf vi).toNat)
      case atStart => exact ⟨cc, m, c2, A2, xs, by omega, rfl, rfl, Lib.hid ⟨HI.out.1, HC.out, HI.out.2.2⟩⟩
      case round =>
        clear HI HC
        obtain ⟨i, m, c2, A2, xs, hi, rfl, rfl, HI⟩ := hrel
        have hml := HI.out.1.length
        rw [nI_length] at hml
        by_cases hin : i < n
        · have d2 : decide ((i : Int) < (n : Int)) = true := decide_eq_true (by omega)
          have d2' : decide (i < n) = true := decide_eq_true hin
          have hup := HI.out.2.1
          rw [upB_more hin (by omega)] at hup
          have hmn : m + 1 ≤ n := by
            have := congrArg List.length hup
            rw [HLEN.out] at this
            simp at this
            omega
          have HUP : Hid ((xs ++ [i]) ++ (upB n wn (i + wn) ++ colFrom n wn wn (cc + 1)) = colL n wn) := by show _ = _; rw [← hup]; simp
          have m1 : Hid (m + 1 ≤ maxLen ∧ (m + 1) * 8 ≤ 140737488355328) := ⟨by simp [maxLen]; omega, by omega⟩
          have HOWN := Lib.hid HI.out.1
          have HB := Lib.hid HI.out.2.2.size
          clear hup hml
          go_wp2_with (at_builtin; refine wpList_pushv (enc := Value.int .i64) rfl (.tmp 20) (.tmp 22) rfl Bwt.uI Bwt.infoI (fun _ => rfl) rfl rfl HOWN.out HB.out (i : Int) _ rfl rfl m1.out.1 m1.out.2 ?_; intro A6 c6 W6 ho6 hb6)
          have HF6 : Hid (Own (Value.int .i64) W6 w.heap.size 3 A6 (m + 1) c6 (nI (xs ++ [i])) ∧ (xs ++ [i]) ++ (upB n wn (i + wn) ++ colFrom n wn wn (cc + 1)) = colL n wn ∧ Below w.heap.size w W6) := ⟨by rw [nI_snoc]; exact ho6, HUP.out, HI.out.2.2.trans hb6⟩
          clear ho6 hb6
          go_roundw
          case rel => exact ⟨i + wn, m + 1, c6, A6, xs ++ [i], by omega, by go_num, rfl, HF6⟩
          case measure => (simp [intOf]) <;> omega
        · have d2 : decide ((i : Int) < (n : Int)) = false := decide_eq_false (by omega)
          have d2' : decide (i < n) = false := decide_eq_false hin
          have HF6 : Hid (Own (Value.int .i64) wr w.heap.size 3 A2 m c2 (nI xs) ∧ xs ++ colFrom n wn wn (cc + 1) = colL n wn ∧ Below w.heap.size w wr) := ⟨HI.out.1, by have h := HI.out.2.1; rw [upB_end (by omega), List.nil_append] at h; exact h, HI.out.2.2⟩
          clear hml
          go_wp2_with fail
          go_roundw
          case rel => exact ⟨cc + 1, m, c2, A2, xs, by omega, by go_num, rfl, HF6⟩
          case measure => (simp [intOf]) <;> omega
    · have d1 : decide ((cc : Int) < (wn : Int)) = false := decide_eq_false (by omega)
      have d1' : decide (cc < wn) = false := decide_eq_false hlt
      have hxs : xs = colL n wn := by have h := HI.out.2.1; rw [colFrom_end (by omega), List.append_nil] at h; exact h
      have hml := HI.out.1.length
      rw [nI_length, hxs, HLEN.out] at hml
      subst hml
      have HF : Hid (Own (Value.int .i64) wr w.heap.size 3 A2 n c2 (nI (colL n wn)) ∧ Below w.heap.size w wr) := ⟨by rw [← hxs]; exact HI.out.1, HI.out.2.2⟩
      clear hxs
      go_wp2_with fail
      go_ret
      exact ⟨A2, c2, rfl, HF.out⟩
theorem ref39F_any (A : Option Addr) (n c : Nat) (wd : Int) (bs : List UInt8) (w : World) (hx : Bytes w A n c bs) (hn : n ≤ 1000000) :
    Calls Tryz.prog 50 #[.slice A n c, .int .i64 wd] w (RetBytes w (if limD n wd = 0 then columnsF wd.toNat bs else []) (limD n wd)) := by
  have HL := limits39_any n wd w
  have Hn := Lib.hid hx.1
  by_cases h0 : limD n wd = 0
  · rw [if_pos h0]
    rw [h0] at HL ⊢
    replace HL := Lib.hid HL
    have hw1 : 1 ≤ wd ∧ wd ≤ 64 := by unfold limD at h0; split at h0; (cases h0); split at h0; (cases h0); omega
    obtain ⟨wn, rfl⟩ : ∃ wn : Nat, wd = (wn : Int) := ⟨wd.toNat, by omega⟩
    rw [Int.toNat_natCast]
    have HX := Lib.hid hx
    have HO := Lib.hid (order39_any n wn w hn (by omega) (by omega))
    have HLEN := Lib.hid (colL_length (n := n) (w := wn) (by omega))
    have HLT := Lib.hid (fun k hk => oN_lt (n := n) (w := wn) (k := k) (by omega) hk)
    clear hx h0
    go_enter Tryz.func50, Tryz.ntmps50
    go_wp2_with fail
    refine HL.out.mono ?_
    rintro e w1 ⟨rfl, hw⟩
    obtain rfl : w = w1 := hw.symm
    go_wp2_with fail
    refine HO.out.mono ?_
    rintro e w1 ⟨AO, cO, rfl, hO, hb1⟩
    have HOI := Lib.hid hO.ints
    have HB1 := Lib.hid hb1
    clear hO hb1
    go_wp2_with fail
    go_loopw [8, 9] (fun vo vi wr => ∃ (k c2 : Nat) (A2 : Option Addr), k ≤ n ∧ vi = .int .i64 (k : Int) ∧ vo = .slice A2 k c2 ∧ Hid (Own encB wr w1.heap.size 5 A2 k c2 (((colL n wn).take k).map (bA bs)) ∧ Below w1.heap.size w1 wr)) (fun _ vi _ => n - (intOf vi).toNat)
    case atStart => exact ⟨0, 0, none, Nat.zero_le _, rfl, rfl, Lib.hid ⟨Own.nil _ _ _ _, Below.refl _ _⟩⟩
    case round =>
      obtain ⟨k, c2, A2, hk, rfl, rfl, HI⟩ := hrel
      by_cases hlt : k < n
      · have d1 : decide ((k : Int) < (n : Int)) = true := decide_eq_true (by omega)
        have d1' : decide (k < n) = true := decide_eq_true hlt
        obtain ⟨bo, oo, hAO, hbo, hco⟩ := HOI.out.get hlt
        subst hAO
        have hpn := HLT.out k hlt
        have hgo : gi (nI (colL n wn)) k = (oN (colL n wn) k : Int) := gi_nI (by rw [HLEN.out]; exact hlt)
        have co := (HI.out.2.cell (p := ⟨bo, oo + k, none⟩) hbo).trans (hco k hlt)
        rw [hgo] at co
        obtain ⟨b1, o1, hA1, hb1, hc1⟩ := (HX.out.below HB1.out).get (k := oN (colL n wn) k) hpn
        subst hA1
        have hkl : k < (colL n wn).length := by rw [HLEN.out]; exact hlt
        have hnx : ((colL n wn).take (k + 1)).map (bA bs) = ((colL n wn).take k).map (bA bs) ++ [bA bs (oN (colL n wn) k)] := by
          rw [List.take_add_one, List.getElem?_eq_getElem hkl, List.map_append]
          congr 1
          unfold oN
          simp [List.getD, hkl]
        obtain ⟨p, hp⟩ : ∃ p, p = oN (colL n wn) k := ⟨_, rfl⟩
        rw [← hp] at co hpn hnx
        obtain ⟨x, hxd⟩ : ∃ x, x = bA bs p := ⟨_, rfl⟩
        have c1 : wr.cell? ⟨b1, o1 + p, none⟩ = some (.int .u8 (x.toNat : Int)) := by rw [hxd]; exact (HI.out.2.cell (p := ⟨b1, o1 + p, none⟩) hb1).trans (hc1 p hpn)
        rw [← hxd] at hnx
        have m1 : Hid (k + 1 ≤ maxLen ∧ (k + 1) * 1 ≤ 140737488355328) := ⟨by simp [maxLen]; omega, by omega⟩
        have HNX := Lib.hid hnx
        have hx256 := x.toNat_lt
        have HOWN := Lib.hid HI.out.1
        have HB := Lib.hid HI.out.2.size
        clear hc1 hco hgo hkl hnx hp hxd hbo hb1
        go_wp2_with (at_builtin; refine wpList_pushv (enc := encB) rfl (.tmp 27) (.tmp 35) rfl uB infoB encB_one rfl rfl HOWN.out HB.out x _ rfl rfl m1.out.1 m1.out.2 ?_; intro A6 c6 W6 ho6 hb6)
        have HF6 : Hid (Own encB W6 w1.heap.size 5 A6 (k + 1) c6 (((colL n wn).take (k + 1)).map (bA bs)) ∧ Below w1.heap.size w1 W6) := ⟨by rw [HNX.out]; exact ho6, HI.out.2.trans hb6⟩
        clear ho6 hb6
        go_roundw
        case rel => exact ⟨k + 1, c6, A6, by omega, by go_num, rfl, HF6⟩
        case measure => (simp [intOf]) <;> omega
      · have d1 : decide ((k : Int) < (n : Int)) = false := decide_eq_false (by omega)
        have d1' : decide (k < n) = false := decide_eq_false hlt
        obtain rfl : k = n := by omega
        have HR : Hid (columnsF wn bs = ((colL k wn).take k).map (bA bs)) := by show _ = _; unfold columnsF; rw [Hn.out, List.take_of_length_le (by rw [HLEN.out]; exact Nat.le_refl _)]
        clear hlt
        go_wp2_with fail
        go_ret2
        rw [HR.out]
        exact RetBytes.mk rfl HI.out.1.bytesB (HB1.out.trans (HI.out.2.mono HB1.out.size))
  · rw [if_neg h0]
    have q0 : (limD n wd != 0) = true := by simpa using h0
    obtain ⟨er, her⟩ : ∃ er, er = limD n wd := ⟨_, rfl⟩
    rw [← her] at HL q0 ⊢
    replace HL := Lib.hid HL
    clear her h0 hx
    go_enter Tryz.func50, Tryz.ntmps50
    go_wp2_with fail
    refine HL.out.mono ?_
    rintro e w1 ⟨rfl, hw⟩
    obtain rfl : w = w1 := hw.symm
    go_wp2_with fail
    go_ret2
    exact RetBytes.err rfl (Below.refl _ _)
theorem is40_any (A : Option Addr) (n c i : Nat) (bs : List UInt8) (w : World) (hx : Bytes w A n c bs) (hn : n ≤ 1000000) (hi : i < n) :
    Calls Tryz.prog 231 #[.slice A n c, .int .i64 (i : Int)] w fun e w' => e = .returned (.bool (opC bs i)) ∧ w' = w := by
  obtain ⟨b, off, rfl, -, hc⟩ := hx.2.2 (by omega)
  have hcell : w.cell? ⟨b, off + i, none⟩ = some (.int .u8 ((bA bs i).toNat : Int)) := hc i hi
  have hl := hx.1
  have hcap := hx.2.1
  have HO : Hid (opC bs i = decide ((bA bs i = 232 ∨ bA bs i = 233) ∧ i + 5 ≤ n)) := by show _ = _; unfold opC; rw [hl]
  obtain ⟨x, hxx⟩ : ∃ x, x = bA bs i := ⟨_, rfl⟩
  rw [← hxx] at hcell HO
  have q1 := u8_beq x 232 232 rfl
  have q2 := u8_beq x 233 233 rfl
  clear hxx hc hx hl
  have hfin : ∀ (p q r : Bool), p = decide (x = 232) → q = decide (x = 233) → r = decide (i + 5 ≤ n) → opC bs i = ((p || q) && r) := by
    rintro p q r rfl rfl rfl
    rw [HO.out]
    simp only [Bool.decide_and, Bool.decide_or]
  have HF := Lib.hid hfin
  clear hfin HO
  have body : ∀ (p q r : Bool), p = decide (x = 232) → q = decide (x = 233) → r = decide (i + 5 ≤ n) → Calls Tryz.prog 231 #[.slice (some ⟨b, off, none⟩) n c, .int .i64 (i : Int)] w fun e w' => e = .returned (.bool (opC bs i)) ∧ w' = w := by
    intro p q r hp hq hr
    have hr2 : decide ((i : Int) + 4 < (n : Int)) = r := by rw [hr]; exact decide_eq_decide.2 (by omega)
    have he := HF.out p q r hp hq hr
    rw [he]
    rw [← hp] at q1
    rw [← hq] at q2
    clear hp hq he HF hr
    cases p with
    | true =>
      cases r with
      | true =>
        go_enter Tryz.func231, Tryz.ntmps231
        go_wp2_with fail
        go_ret
        exact ⟨rfl, rfl⟩
      | false =>
        go_enter Tryz.func231, Tryz.ntmps231
        go_wp2_with fail
        go_ret
        exact ⟨rfl, rfl⟩
    | false =>
      cases q with
      | true =>
        cases r with
        | true =>
          go_enter Tryz.func231, Tryz.ntmps231
          go_wp2_with fail
          go_ret
          exact ⟨rfl, rfl⟩
        | false =>
          go_enter Tryz.func231, Tryz.ntmps231
          go_wp2_with fail
          go_ret
          exact ⟨rfl, rfl⟩
      | false =>
        go_enter Tryz.func231, Tryz.ntmps231
        go_wp2_with fail
        go_ret
        exact ⟨rfl, rfl⟩
  exact body _ _ _ rfl rfl rfl
theorem sites40_any (A : Option Addr) (n c : Nat) (bs : List UInt8) (w : World) (hx : Bytes w A n c bs) (hn : n ≤ 1000000) :
    Calls Tryz.prog 168 #[.slice A n c] w fun e w' => (if 65536 < n then e = .returned (.tuple #[.slice none 0 0, .int .i64 5]) else ∃ A2 m2 c2, e = .returned (.tuple #[.slice A2 m2 c2, .int .i64 0]) ∧ Own (Value.int .i64) w' w.heap.size 3 A2 m2 c2 (nI (sitesC bs))) ∧ Below w.heap.size w w' := by
  have Hn := Lib.hid hx.1
  have HX := Lib.hid hx
  by_cases h6 : 65536 < n
  · have d0 : decide ((65536 : Int) < (n : Int)) = true := decide_eq_true (by omega)
    have d0' : decide (65536 < n) = true := decide_eq_true h6
    simp only [if_pos h6]
    clear hx h6
    go_enter Tryz.func168, Tryz.ntmps168
    go_wp2_with fail
    go_ret2
    exact ⟨rfl, Below.refl _ _⟩
  · have d0 : decide ((65536 : Int) < (n : Int)) = false := decide_eq_false (by omega)
    have d0' : decide (65536 < n) = false := decide_eq_false h6
    simp only [if_neg h6]
    have hn6 : n ≤ 65536 := by omega
    clear hx h6
    go_enter Tryz.func168, Tryz.ntmps168
    go_wp2_with fail
    go_loopw [4, 5] (fun vo vi wr => ∃ (i m c2 : Nat) (A2 : Option Addr) (xs : List Nat), i ≤ n + 5 ∧ m ≤ i ∧ vi = .int .i64 (i : Int) ∧ vo = .slice A2 m c2 ∧ Hid (Own (Value.int .i64) wr w.heap.size 3 A2 m c2 (nI xs) ∧ xs ++ siteC bs i = sitesC bs ∧ Below w.heap.size w wr)) (fun _ vi _ => n + 5 - (intOf vi).toNat)
    case atStart => exact ⟨0, 0, 0, none, [], Nat.zero_le _, Nat.le_refl _, rfl, rfl, Lib.hid ⟨(by show Own _ _ _ _ _ _ _ []; exact Own.nil _ _ _ _), rfl, Below.refl _ _⟩⟩
    case round =>
      obtain ⟨i, m, c2, A2, xs, hi, hmi, rfl, rfl, HI⟩ := hrel
      by_cases hlt : i < n
      · have d1 : decide ((i : Int) < (n : Int)) = true := decide_eq_true (by omega)
        have d1' : decide (i < n) = true := decide_eq_true hlt
        have hxr := HX.out.below HI.out.2.2
        have HIS := is40_any A n c i bs wr hxr (by omega) hlt
        have hil : i < bs.length := by rw [Hn.out]; exact hlt
        cases ho : opC bs i with
        | false =>
          rw [ho] at HIS
          replace HIS := Lib.hid HIS
          have HF6 : Hid (Own (Value.int .i64) wr w.heap.size 3 A2 m c2 (nI xs) ∧ xs ++ siteC bs (i + 1) = sitesC bs ∧ Below w.heap.size w wr) := ⟨HI.out.1, by have h := HI.out.2.1; rw [siteC_no hil ho] at h; exact h, HI.out.2.2⟩
          clear hxr hil ho
          go_wp2_with fail
          refine HIS.out.mono ?_
          rintro e w1 ⟨rfl, hw⟩
          obtain rfl : wr = w1 := hw.symm
          go_wp2_with fail
          go_roundw
          case rel => exact ⟨i + 1, m, c2, A2, xs, by omega, by omega, by go_num, rfl, HF6⟩
          case measure => (simp [intOf]) <;> omega
        | true =>
          rw [ho] at HIS
          replace HIS := Lib.hid HIS
          have hi5 : i + 5 ≤ n := by unfold opC at ho; have := (of_decide_eq_true ho).2; rw [Hn.out] at this; exact this
          obtain ⟨b1, o1, hA, -, hc1⟩ := hxr.get hlt
          subst hA
          have c1 : wr.cell? ⟨b1, o1 + (i + 4), none⟩ = some (.int .u8 ((bA bs (i + 4)).toNat : Int)) := hc1 (i + 4) (by omega)
          have q1 := u8_beq (bA bs (i + 4)) 0 0 rfl
          have q2 := u8_beq (bA bs (i + 4)) 255 255 rfl
          have hi4 : i + 4 < n := by omega
          have hi4' : (i : Int) + 4 < (n : Int) := by omega
          cases hh : hiC bs i with
          | false =>
            have hh' := hh
            unfold hiC at hh'
            have hh2 := of_decide_eq_false hh'
            rw [decide_eq_false (fun e => hh2 (.inl e))] at q1
            rw [decide_eq_false (fun e => hh2 (.inr e))] at q2
            have HF6 : Hid (Own (Value.int .i64) wr w.heap.size 3 A2 m c2 (nI xs) ∧ xs ++ siteC bs (i + 5) = sitesC bs ∧ Below w.heap.size w wr) := ⟨HI.out.1, by have h := HI.out.2.1; rw [siteC_skip hil ho hh] at h; exact h, HI.out.2.2⟩
            clear hxr hil ho hh hh' hh2 hc1
            go_wp2_with fail
            refine HIS.out.mono ?_
            rintro e w1 ⟨rfl, hw⟩
            obtain rfl : wr = w1 := hw.symm
            go_wp2_with fail
            go_roundw
            case rel => exact ⟨i + 5, m, c2, A2, xs, by omega, by omega, by go_num, rfl, HF6⟩
            case measure => (simp [intOf]) <;> omega
          | true =>
            have HUP : Hid ((xs ++ [i]) ++ siteC bs (i + 5) = sitesC bs) := by show _ = _; have h := HI.out.2.1; rw [siteC_hit hil ho hh] at h; rw [← h]; simp
            have m1 : Hid (m + 1 ≤ maxLen ∧ (m + 1) * 8 ≤ 140737488355328) := ⟨by simp [maxLen]; omega, by omega⟩
            have HOWN := Lib.hid HI.out.1
            have HB := Lib.hid HI.out.2.2.size
            have hor : (decide (bA bs (i + 4) = 0) = true) ∨ (decide (bA bs (i + 4) = 0) = false ∧ decide (bA bs (i + 4) = 255) = true) := by
              unfold hiC at hh
              rcases of_decide_eq_true hh with h | h
              · exact .inl (decide_eq_true h)
              · by_cases h0 : bA bs (i + 4) = 0
                · exact .inl (decide_eq_true h0)
                · exact .inr ⟨decide_eq_false h0, decide_eq_true h⟩
            clear hxr hil ho hh hc1
            rcases hor with e1 | ⟨e1, e2⟩
            all_goals
              first
              | rw [e1] at q1
              first
              | rw [e2] at q2; clear e1 e2
              | clear e1 q2
              go_wp2_with fail
              refine HIS.out.mono ?_
              rintro e w1 ⟨rfl, hw⟩
              obtain rfl : wr = w1 := hw.symm
              go_wp2_with (at_builtin; refine wpList_pushv (enc := Value.int .i64) rfl (.tmp 33) (.tmp 35) rfl Bwt.uI Bwt.infoI (fun _ => rfl) rfl rfl HOWN.out HB.out (i : Int) _ rfl rfl m1.out.1 m1.out.2 ?_; intro A6 c6 W6 ho6 hb6)
              have HF6 : Hid (Own (Value.int .i64) W6 w.heap.size 3 A6 (m + 1) c6 (nI (xs ++ [i])) ∧ (xs ++ [i]) ++ siteC bs (i + 5) = sitesC bs ∧ Below w.heap.size w W6) := ⟨by rw [nI_snoc]; exact ho6, HUP.out, HI.out.2.2.trans hb6⟩
              clear ho6 hb6
              go_roundw
              case rel => exact ⟨i + 5, m + 1, c6, A6, xs ++ [i], by omega, by omega, by go_num, rfl, HF6⟩
              case measure => (simp [intOf]) <;> omega
      · have d1 : decide ((i : Int) < (n : Int)) = false := decide_eq_false (by omega)
        have d1' : decide (i < n) = false := decide_eq_false hlt
        have hxs : xs = sitesC bs := by have h := HI.out.2.1; rw [siteC_end (by rw [Hn.out]; omega), List.append_nil] at h; exact h
        have HF : Hid (Own (Value.int .i64) wr w.heap.size 3 A2 m c2 (nI (sitesC bs)) ∧ Below w.heap.size w wr) := ⟨by rw [← hxs]; exact HI.out.1, HI.out.2.2⟩
        clear hxs
        go_wp2_with fail
        go_ret2
        exact ⟨⟨A2, m, c2, rfl, HF.out.1⟩, HF.out.2⟩
theorem ms_lt {k m : Nat} (h : k < m) : m - (intOf (.int .i64 ((k : Int) + 1))).toNat < m - (intOf (.int .i64 (k : Int))).toNat := by
  simp [intOf]
  omega
theorem siteC_length {bs : List UInt8} : ∀ (d i : Nat), bs.length - i = d → (siteC bs i).length ≤ d := by
  intro d
  induction d using Nat.strongRecOn with
  | _ d ih =>
    intro i hd
    by_cases hi : i < bs.length
    · cases ho : opC bs i with
      | false =>
        rw [siteC_no hi ho]
        have := ih (bs.length - (i + 1)) (by omega) (i + 1) rfl
        omega
      | true =>
        cases hh : hiC bs i with
        | false =>
          rw [siteC_skip hi ho hh]
          have := ih (bs.length - (i + 5)) (by omega) (i + 5) rfl
          omega
        | true =>
          rw [siteC_hit hi ho hh, List.length_cons]
          have := ih (bs.length - (i + 5)) (by omega) (i + 5) rfl
          omega
    · rw [siteC_end (by omega)]
      exact Nat.zero_le _
theorem change40_any (s : Int) (hs : s = 1 ∨ s = -1) (A : Option Addr) (n c : Nat) (bs : List UInt8) (w : World) (hx : Bytes w A n c bs) (hn : n ≤ 1000000) :
    Calls Tryz.prog 104 #[.slice A n c, .int .i64 s] w (RetBytes w (if 65536 < n then [] else callsP s bs) (if 65536 < n then 5 else 0)) := by
  have HS := sites40_any A n c bs w hx hn
  have Hn := Lib.hid hx.1
  by_cases h6 : 65536 < n
  · simp only [if_pos h6] at HS ⊢
    replace HS := Lib.hid HS
    clear hx h6
    go_enter Tryz.func104, Tryz.ntmps104
    go_wp2_with fail
    refine HS.out.mono ?_
    rintro e w1 ⟨rfl, hb1⟩
    have HB1 := Lib.hid hb1
    clear hb1
    go_wp2_with fail
    go_ret2
    exact RetBytes.err rfl HB1.out
  · simp only [if_neg h6] at HS ⊢
    replace HS := Lib.hid HS
    have HX := Lib.hid hx
    have hn6 : n ≤ 65536 := by omega
    have m0 : Hid (0 + n ≤ maxLen ∧ (0 + n) * 1 ≤ 140737488355328) := ⟨by simp [maxLen]; omega, by omega⟩
    have hsb : -1 ≤ s ∧ s ≤ 1 := by rcases hs with h | h <;> omega
    clear hx h6 hs
    go_enter Tryz.func104, Tryz.ntmps104
    go_wp2_with fail
    refine HS.out.mono ?_
    rintro e w1 ⟨⟨AS, mS, cS, rfl, hO⟩, hb1⟩
    have hmS : (sitesC bs).length = mS := by have := hO.length; rwa [nI_length] at this
    have hmle : mS ≤ 65536 := by
      have h1 : (sitesC bs).length ≤ bs.length := siteC_length bs.length 0 rfl
      have h2 := Hn.out
      omega
    have HOI := Lib.hid hO.ints
    have HB1 := Lib.hid hb1
    have hx1 := HX.out.below hb1
    have HX1 := Lib.hid hx1
    clear hO hb1 HS hx1
    go_wp2_with (at_builtin; refine wpList_app (enc := encB) rfl (.tmp 20) (.tmp 21) rfl uB infoB encB_one rfl rfl (Own.nil encB w1 w1.heap.size 5) (Nat.le_refl _) A n c bs 0 HX1.out.1 HX1.out.2.2 rfl m0.out.1 m0.out.2 ?_; intro A6 c6 W6 ho6 hb6 hg6; rw [Nat.zero_add, List.nil_append] at ho6)
    obtain ⟨g, hg⟩ : ∃ g, 0 < n → A6 = some ⟨g, 0, none⟩ ∧ w1.heap.size ≤ g ∧ RowB W6 g n bs := by
      rcases Nat.eq_zero_or_pos n with h | h
      · exact ⟨0, fun h' => absurd h' (by omega)⟩
      · obtain ⟨g, h1, h2, h3⟩ := RowB.of_own ho6 h
        exact ⟨g, fun _ => ⟨h1, h2, h3⟩⟩
    have H6 := Lib.hid (And.intro hb6 (And.intro hg ho6.bytesB))
    clear hb6 hg ho6 hg6
    go_loopw [9, 10, 11] (fun vk _ _ wr => ∃ k : Nat, k ≤ mS ∧ vk = .int .i64 (k : Int) ∧ Hid ((0 < n → RowB wr g n (chg s bs k)) ∧ (n = 0 → Bytes wr A6 n c6 bs) ∧ Below w1.heap.size w1 wr)) (fun vk _ _ _ => mS - (intOf vk).toNat)
    case atStart => exact ⟨0, Nat.zero_le _, rfl, Lib.hid ⟨fun h => (H6.out.2.1 h).2.2, fun _ => H6.out.2.2, H6.out.1⟩⟩
    case round =>
      obtain ⟨k, hk, rfl, HI⟩ := hrel
      by_cases hlt : k < mS
      · have d1 : decide ((k : Int) < (mS : Int)) = true := decide_eq_true (by omega)
        have d1' : decide (k < mS) = true := decide_eq_true hlt
        have hks : k < (sitesC bs).length := by omega
        have hin := site_in hks
        rw [Hn.out] at hin
        have hn0 : 0 < n := by omega
        obtain ⟨hA6, hg1, -⟩ := H6.out.2.1 hn0
        subst hA6
        obtain ⟨bo, oo, hAS, hbo, hco⟩ := HOI.out.get hlt
        subst hAS
        have hgo : gi (nI (sitesC bs)) k = (oN (sitesC bs) k : Int) := gi_nI hks
        have co := (HI.out.2.2.cell (p := ⟨bo, oo + k, none⟩) hbo).trans (hco k hlt)
        rw [hgo] at co
        have hrow := HI.out.1 hn0
        have hnw : chg s bs (k + 1) = put3 (chg s bs k) (oN (sitesC bs) k) (newC s bs (oN (sitesC bs) k)) := rfl
        obtain ⟨i, hi⟩ : ∃ i, i = oN (sitesC bs) k := ⟨_, rfl⟩
        rw [← hi] at co hin hnw
        obtain ⟨b1, o1, hA1, hb1, hc1⟩ := HX1.out.get hn0
        subst hA1
        have cc : ∀ j, j < n → wr.cell? ⟨b1, o1 + j, none⟩ = some (.int .u8 ((bA bs j).toNat : Int)) := fun j hj => (HI.out.2.2.cell (p := ⟨b1, o1 + j, none⟩) hb1).trans (hc1 j hj)
        have c1 := cc (i + 1) (by omega)
        have c2 := cc (i + 2) (by omega)
        have c3 := cc (i + 3) (by omega)
        have hop : opnd bs i = (bA bs (i + 1)).toNat + 256 * (bA bs (i + 2)).toNat + 65536 * (bA bs (i + 3)).toNat := rfl
        have hne : newC s bs i = ((((opnd bs i : Nat) : Int) + s * ((i + 5 : Nat) : Int)).emod 16777216).toNat := rfl
        obtain ⟨y1, hy1⟩ : ∃ y, y = bA bs (i + 1) := ⟨_, rfl⟩
        obtain ⟨y2, hy2⟩ : ∃ y, y = bA bs (i + 2) := ⟨_, rfl⟩
        obtain ⟨y3, hy3⟩ : ∃ y, y = bA bs (i + 3) := ⟨_, rfl⟩
        rw [← hy1] at c1 hop
        rw [← hy2] at c2 hop
        rw [← hy3] at c3 hop
        have l1 := y1.toNat_lt
        have l2 := y2.toNat_lt
        have l3 := y3.toNat_lt
        have j1 : i + 1 < n := by omega
        have j2 : i + 2 < n := by omega
        have j3 : i + 3 < n := by omega
        have j1' : (i : Int) + 1 < (n : Int) := by omega
        have j2' : (i : Int) + 2 < (n : Int) := by omega
        have j3' : (i : Int) + 3 < (n : Int) := by omega
        have hT : -65541 ≤ s * ((i : Int) + 5) ∧ s * ((i : Int) + 5) ≤ 65541 := by
          rcases (by omega : s = -1 ∨ s = 0 ∨ s = 1) with rfl | rfl | rfl <;> omega
        have hci : ((i + 5 : Nat) : Int) = (i : Int) + 5 := by omega
        have hnz : ((newC s bs i : Nat) : Int) = (((opnd bs i : Nat) : Int) + s * ((i : Int) + 5)) % 16777216 := by
          rw [hne, hci]
          exact Int.toNat_of_nonneg (Int.emod_nonneg _ (by decide))
        have hoi : ((opnd bs i : Nat) : Int) = (y1.toNat : Int) + 256 * (y2.toNat : Int) + 65536 * (y3.toNat : Int) := by rw [hop]; omega
        rw [hoi] at hnz
        have hq : ((((y1.toNat : Int) + 256 * (y2.toNat : Int) + 65536 * (y3.toNat : Int) + s * ((i : Int) + 5) + 16777216).tmod 16777216)) = ((newC s bs i : Nat) : Int) := by
          rw [hnz, Int.tmod_eq_emod_of_nonneg (by omega)]
          omega
        obtain ⟨T, hTd⟩ : ∃ T, T = s * ((i : Int) + 5) := ⟨_, rfl⟩
        rw [← hTd] at hT hq
        have e1 : wrap64 (s * ((i : Int) + 5)) = T := by rw [← hTd]; exact w64 (by omega)
        obtain ⟨V2, hV2⟩ : ∃ V, V = (y1.toNat : Int) + 256 * (y2.toNat : Int) + 65536 * (y3.toNat : Int) + T := ⟨_, rfl⟩
        rw [← hV2] at hq
        have e2 : wrap64 ((y1.toNat : Int) + 256 * (y2.toNat : Int) + 65536 * (y3.toNat : Int) + T) = V2 := by rw [← hV2]; exact w64 (by omega)
        obtain ⟨V3, hV3⟩ : ∃ V, V = V2 + 16777216 := ⟨_, rfl⟩
        rw [← hV3] at hq
        have e3 : wrap64 (V2 + 16777216) = V3 := by rw [← hV3]; exact w64 (by omega)
        obtain ⟨q, hqd⟩ : ∃ q, q = newC s bs i := ⟨_, rfl⟩
        rw [← hqd] at hq hnw
        have hq24 : q < 16777216 := by rw [hqd]; exact newC_lt s bs i
        clear hne hT hTd hV2 hV3 hqd hnz hoi hci
        have HROW := Lib.hid hrow
        have HNW := Lib.hid hnw
        have HOP := Lib.hid hop
        have HCO := Lib.hid hi
        clear hi hy1 hy2 hy3 cc hc1 hrow hnw hop hgo hco hbo hb1 hks
        go_wp2_with fail
        go_quiet (fail)
        have hv0 : ((byC q 0).toNat : Int) = (q : Int) % 256 := by unfold byC; rw [UInt8.toNat_ofNat', Nat.pow_zero, Nat.div_one]; omega
        have hv1 : ((byC q 1).toNat : Int) = (q : Int) / 256 % 256 := by unfold byC; rw [UInt8.toNat_ofNat', Nat.pow_one]; omega
        have hv2 : ((byC q 2).toNat : Int) = (q : Int) / 65536 := by unfold byC; rw [UInt8.toNat_ofNat', show (256 : Nat) ^ 2 = 65536 from rfl]; omega
        have r0 : RowB (wr.drewN nq) g n (chg s bs k) := HROW.out
        have r1 := r0.set (k := i + 1) (by omega) (byC q 0)
        have r2 := r1.set (k := i + 2) (by omega) (byC q 1)
        have r3 := r2.set (k := i + 3) (by omega) (byC q 2)
        rw [hv0] at r1 r2 r3
        rw [hv1] at r2 r3
        rw [hv2] at r3
        have t0 := r0.cell (k := i + 1) (by omega)
        have t1 := r1.cell (k := i + 2) (by omega)
        have t2 := r2.cell (k := i + 3) (by omega)
        have f0 := r0.frozen (i + 1)
        have f1 := r1.frozen (i + 2)
        have f2 := r2.frozen (i + 3)
        have R3 := Lib.hid r3
        have hbl : Below w1.heap.size w1 ((((wr.drewN nq).setCell ⟨g, i + 1, none⟩ (.int .u8 ((q : Int) % 256))).setCell ⟨g, i + 2, none⟩ (.int .u8 ((q : Int) / 256 % 256))).setCell ⟨g, i + 3, none⟩ (.int .u8 ((q : Int) / 65536))) := (((HI.out.2.2.trans ((Drawn.drewN wr nq).below _)).setCell (p := ⟨g, i + 1, none⟩) hg1 _).setCell (p := ⟨g, i + 2, none⟩) hg1 _).setCell (p := ⟨g, i + 3, none⟩) hg1 _
        have HF6 : Hid ((0 < n → RowB ((((wr.drewN nq).setCell ⟨g, i + 1, none⟩ (.int .u8 ((q : Int) % 256))).setCell ⟨g, i + 2, none⟩ (.int .u8 ((q : Int) / 256 % 256))).setCell ⟨g, i + 3, none⟩ (.int .u8 ((q : Int) / 65536))) g n (chg s bs (k + 1))) ∧ (n = 0 → Bytes ((((wr.drewN nq).setCell ⟨g, i + 1, none⟩ (.int .u8 ((q : Int) % 256))).setCell ⟨g, i + 2, none⟩ (.int .u8 ((q : Int) / 256 % 256))).setCell ⟨g, i + 3, none⟩ (.int .u8 ((q : Int) / 65536))) (some ⟨g, 0, none⟩) n c6 bs) ∧ Below w1.heap.size w1 ((((wr.drewN nq).setCell ⟨g, i + 1, none⟩ (.int .u8 ((q : Int) % 256))).setCell ⟨g, i + 2, none⟩ (.int .u8 ((q : Int) / 256 % 256))).setCell ⟨g, i + 3, none⟩ (.int .u8 ((q : Int) / 65536)))) := ⟨fun _ => by rw [HNW.out]; exact r3, fun h => absurd h (by omega), hbl⟩
        clear r0 r1 r2 r3 hv0 hv1 hv2 hbl
        go_wp2_with fail
        go_roundw
        case rel =>
          exact ⟨k + 1, hlt, rfl, HF6⟩
        case measure =>
          exact ms_lt hlt
      · have d1 : decide ((k : Int) < (mS : Int)) = false := decide_eq_false (by omega)
        have d1' : decide (k < mS) = false := decide_eq_false hlt
        obtain rfl : k = mS := by omega
        have hcap := H6.out.2.2.2.1
        have HR : Hid (Bytes wr A6 n c6 (callsP s bs)) := by
          have he : callsP s bs = chg s bs k := by unfold callsP; rw [hmS]
          rcases Nat.eq_zero_or_pos n with h | h
          · have hb0 : bs = [] := List.length_eq_zero_iff.1 (by rw [Hn.out]; exact h)
            have hc0 : callsP s bs = bs := by
              have hl : (callsP s bs).length = 0 := by rw [callsP_length, Hn.out]; exact h
              rw [List.length_eq_zero_iff.1 hl, hb0]
            show Bytes _ _ _ _ _
            rw [hc0]
            exact HI.out.2.1 h
          · obtain ⟨h1, -, -⟩ := H6.out.2.1 h
            show Bytes _ _ _ _ _
            rw [he, h1]
            exact (HI.out.1 h).bytes hcap
        clear hlt
        go_wp2_with fail
        go_ret2
        exact RetBytes.mk rfl HR.out (HB1.out.trans (HI.out.2.2.mono HB1.out.size))
end Go.Proofs.YtohadkmaemmfgaaGreatDoor
namespace Go.Proofs.YtohadkmaemmfgaaGreatDoor
open Go.RowKit Go.Proofs Go.Shelf
set_option linter.unusedVariables false
set_option linter.unusedSimpArgs false

end Go.Proofs.YtohadkmaemmfgaaGreatDoor
