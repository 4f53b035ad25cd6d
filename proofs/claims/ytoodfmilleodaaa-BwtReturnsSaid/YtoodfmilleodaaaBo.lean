/- Forward of layer 33, of the program and of the reference. -/
import Derived.Test.YtoodfmilleodaaaBm
import Derived.Test.YtoodfmilleodaaaCc
import Derived.Test.YtoodfmilleodaaaWs
namespace Go.Proofs.Ytoodfmilleodaaa
open Go.RowKit Go.Proofs Go.Sort
set_option linter.unusedVariables false

theorem sort_long (A : Option Addr) (c n : Nat) (w : World) (h1 : 65536 < n) (h2 : n ≤ 1000000000) :
    Calls Try.prog 38 #[.slice A n c] w (RetInts w [] 5) := by
  have d1 : decide ((65536 : Int) < (n : Int)) = true := by simp; omega
  have d2 : decide (65536 < n) = true := by simp; omega
  go_enter Try.func38, Try.ntmps38
  go_wp2_with fail
  go_ret2
  exact RetInts.mk rfl (Ints.nil _ _) (Below.refl _ _)
theorem refSort_long (A : Option Addr) (c n : Nat) (w : World) (h1 : 65536 < n) (h2 : n ≤ 1000000000) :
    Calls Try.prog 46 #[.slice A n c] w (RetInts w [] 5) := by
  have d1 : decide ((65536 : Int) < (n : Int)) = true := by simp; omega
  have d2 : decide (65536 < n) = true := by simp; omega
  go_enter Try.func46, Try.ntmps46
  go_wp2_with fail
  go_ret2
  exact RetInts.mk rfl (Ints.nil _ _) (Below.refl _ _)

/-- the bytes ahead of the first k places of the order. -/
def fwdTo (bs : List UInt8) : Nat → List UInt8
  | 0 => []
  | k + 1 => fwdTo bs k ++ if 0 < gi (sortL bs) k then [bs.getD ((gi (sortL bs) k).toNat - 1) 0] else []
def fwdL (bs : List UInt8) : List UInt8 := fwdTo bs (bs.length + 1)
def primN (bs : List UInt8) : Nat := (sortL bs).idxOf 0
def primTo (bs : List UInt8) : Nat → Nat
  | 0 => 0
  | k + 1 => if gi (sortL bs) k = 0 then k else primTo bs k
theorem fwdTo_le (bs : List UInt8) : ∀ k, (fwdTo bs k).length ≤ k
  | 0 => by simp [fwdTo]
  | k + 1 => by rw [fwdTo, List.length_append]; have := fwdTo_le bs k; split <;> simp <;> omega
theorem zero_mem (bs : List UInt8) : (0 : Int) ∈ sortL bs := mem_sortL.2 ⟨by omega, by omega⟩
theorem primN_le (bs : List UInt8) : primN bs ≤ bs.length := by
  have := List.idxOf_lt_length_iff.2 (zero_mem bs)
  rw [sortL_length] at this
  unfold primN; omega
theorem gi_prim (bs : List UInt8) : gi (sortL bs) (primN bs) = 0 := by
  have h := List.idxOf_lt_length_iff.2 (zero_mem bs)
  rw [gi_get (k := primN bs) h]
  exact List.getElem_idxOf h
theorem sortL_nodup (bs : List UInt8) : (sortL bs).Nodup := ((permErr_zero_iff _).1 (sortL_perm bs)).2
theorem prim_only {bs : List UInt8} {k : Nat} (hk : k ≤ bs.length) (h : gi (sortL bs) k = 0) : k = primN bs := by
  have hl := sortL_length bs
  have h1 : k < (sortL bs).length := by omega
  rw [gi_get h1] at h
  have := (sortL_nodup bs).idxOf_getElem k h1
  rw [h] at this
  exact this.symm
theorem primTo_eq (bs : List UInt8) : ∀ k, k ≤ bs.length + 1 → primTo bs k = if primN bs < k then primN bs else 0
  | 0, _ => by simp [primTo]
  | k + 1, hk => by
    rw [primTo, primTo_eq bs k (by omega)]
    by_cases h : gi (sortL bs) k = 0
    · have := prim_only (by omega) h
      rw [if_pos h, if_pos (by omega)]; exact this
    · rw [if_neg h]
      have : k ≠ primN bs := fun e => h (by rw [e]; exact gi_prim bs)
      by_cases h2 : primN bs < k
      · rw [if_pos h2, if_pos (by omega)]
      · rw [if_neg h2, if_neg (by omega)]
theorem gi_sort (bs : List UInt8) {k : Nat} (hk : k ≤ bs.length) : 0 ≤ gi (sortL bs) k ∧ gi (sortL bs) k ≤ bs.length := mem_sortL.1 (gi_mem (by rw [sortL_length]; omega))
def fwdRes (bs : List UInt8) : List UInt8 × Nat × Nat := if 65536 < bs.length then ([], 0, 5) else (fwdL bs, primN bs, 0)
def RetFwd (w : World) (x : List UInt8 × Nat × Nat) (e : Ending) (w' : World) : Prop := ∃ A n c, e = .returned (.tuple #[.slice A n c, .int .i64 (x.2.1 : Int), .int .i64 (x.2.2 : Int)]) ∧ Bytes w' A n c x.1 ∧ Below w.heap.size w w'

set_option maxHeartbeats 1000000 in
theorem forward_any (A : Option Addr) (n c : Nat) (bs : List UInt8) (w : World) (hx : Bytes w A n c bs) (hn : n ≤ 1000000000) :
    Calls Try.prog 14 #[.slice A n c] w (RetFwd w (fwdRes bs)) := by
  have Hn := Lib.hid hx.1
  by_cases h1 : 65536 < n
  · have hR : Hid (fwdRes bs = ([], 0, 5)) := by show _ = _; unfold fwdRes; rw [Hn.out, if_pos h1]
    have Hcal := Lib.hid (sort_long A c n w h1 hn)
    go_enter Try.func14, Try.ntmps14
    go_wp2_with fail
    refine Hcal.out.mono ?_
    rintro e w1 ⟨A1, n1, c1, rfl, -, hb1⟩
    go_wp2_with fail
    go_ret3
    rw [hR.out]
    exact ⟨none, 0, 0, rfl, Bytes.nil _ _, hb1⟩
  · have hR : Hid (fwdRes bs = (fwdL bs, primN bs, 0)) := by show _ = _; unfold fwdRes; rw [Hn.out, if_neg h1]
    have hn6 : n ≤ 65536 := by omega
    have Hcal := Lib.hid (sort_any A c n bs w hx hn6)
    go_enter Try.func14, Try.ntmps14
    go_wp2_with fail
    refine Hcal.out.mono ?_
    rintro e w1 ⟨A1, n1, c1, rfl, hi1, hb1⟩
    have hn1 : n1 = n + 1 := by rw [← hi1.1, sortL_length, Hn.out]
    subst hn1
    obtain ⟨b, off, rfl, hbl, hcell⟩ := hi1.get (k := 0) (by omega)
    have hix := Try.slices_Index_int b off (n + 1) c1 (sortL bs) 0 w1 (by rw [sortL_length, Hn.out]; exact Nat.le_refl _) (by omega) (fun j hj => hcell j (by rw [sortL_length, Hn.out] at hj; exact hj))
    have hpe : Lib.idxOf ((sortL bs).take (n + 1)) 0 = (primN bs : Int) := Lib.idxOf_hit _ _ _ _ (by have := primN_le bs; rw [Hn.out] at this; omega) (by rw [sortL_length, Hn.out]; exact Nat.le_refl _) (gi_prim bs) (fun j hj h => by
      have := prim_only (bs := bs) (k := j) (by have := primN_le bs; omega) h
      omega)
    rw [hpe] at hix
    have Hix := Lib.hid hix; clear hix hpe Hcal hcell
    go_wp2_with fail
    refine Hix.out.mono ?_
    rintro e w2 ⟨rfl, hw2⟩
    obtain rfl : w1 = w2 := hw2.symm
    have hmk := run_make_cap (P := Try.prog) (enc := encB) uB infoB rfl n (by omega) (by omega)
    clear Hix
    go_wp2_with fail
    have ho0 := Own.made (enc := encB) w1 5 0 n (B := w1.heap.size) (Nat.le_refl _) (by simp [maxLen]; omega)
    have hb0 : Below w1.heap.size w1 (w1.alloc (rowObj encB 5 (List.replicate n 0))) := (Below.refl _ _).alloc (Nat.le_refl _) _
    clear hmk
    have hx1 := hx.below hb1
    go_loopw [8, 10, 26] (fun o _ i wr => ∃ (k : Nat) (A3 : Option Addr) (n3 c3 : Nat), k ≤ n + 1 ∧ i = .int .i64 (k : Int) ∧ o = .slice A3 n3 c3 ∧ n3 ≤ k ∧ Own encB wr w1.heap.size 5 A3 n3 c3 (fwdTo bs k) ∧ Below w1.heap.size w1 wr) (fun _ _ i _ => n + 1 - (intOf i).toNat)
    case atStart => exact ⟨0, _, _, _, Nat.zero_le _, rfl, rfl, Nat.le_refl _, ho0, hb0⟩
    case round =>
      clear ho0 hb0
      obtain ⟨k, A3, n3, c3, hk, rfl, rfl, hn3, ho3, hb3⟩ := hrel
      by_cases hlt : k < n + 1
      · have dk : decide ((k : Int) < (n : Int) + 1) = true := by simp; omega
        have dk' : decide (k < n + 1) = true := by simp; omega
        have c1 := (hi1.below hb3).cell hlt
        obtain ⟨g0, g1⟩ := gi_sort bs (k := k) (by rw [Hn.out]; omega)
        rw [Hn.out] at g1
        have hnx : Hid (fwdTo bs (k + 1) = fwdTo bs k ++ if 0 < gi (sortL bs) k then [bs.getD ((gi (sortL bs) k).toNat - 1) 0] else []) := rfl
        obtain ⟨z, hz⟩ : ∃ z, z = gi (sortL bs) k := ⟨_, rfl⟩
        rw [← hz] at c1 g0 g1 hnx
        clear hz
        obtain ⟨q, rfl⟩ : ∃ q : Nat, z = (q : Int) := ⟨z.toNat, by omega⟩
        rw [Int.toNat_natCast] at hnx
        by_cases hq : 0 < q
        · have dq : decide ((0 : Int) < (q : Int)) = true := by simp; omega
          have dq' : decide (0 < q) = true := by simp; omega
          obtain ⟨b5, off5, rfl, hb5, hc5⟩ := (hx1.below hb3).get (k := q - 1) (by omega)
          have c5 := hc5 (q - 1) (by omega)
          clear hc5
          have hq1 : (1 : Int) ≤ q := by omega
          rw [if_pos (by omega)] at hnx
          have hv : Hid (encB (bs.getD (q - 1) 0) = .int .u8 (gb bs (q - 1))) := rfl
          have m1 : Hid (n3 + 1 ≤ maxLen ∧ (n3 + 1) * 1 ≤ 140737488355328) := ⟨by simp [maxLen]; omega, by omega⟩
          have hB3 := hb3.size
          go_wp2_with (at_builtin; refine wpList_pushv (enc := encB) rfl (.tmp 32) (.tmp 38) rfl uB infoB encB_one rfl rfl ho3 hB3 (bs.getD (q - 1) 0) _ hv.out rfl m1.out.1 m1.out.2 ?_; intro A7 c7 W7 ho7 hb7)
          go_roundw
          case rel => exact ⟨k + 1, A7, n3 + 1, c7, by omega, by go_num, rfl, by omega, by rw [hnx.out]; exact ho7, hb3.trans hb7⟩
          case measure => simp [intOf]; omega
        · have dq : decide ((0 : Int) < (q : Int)) = false := by simp; omega
          have dq' : decide (0 < q) = false := by simp; omega
          rw [if_neg (by omega)] at hnx
          go_wp2_with fail
          go_roundw
          case rel => exact ⟨k + 1, A3, n3, c3, by omega, by go_num, rfl, by omega, by rw [hnx.out, List.append_nil]; exact ho3, hb3⟩
          case measure => simp [intOf]; omega
      · have dk : decide ((k : Int) < (n : Int) + 1) = false := by simp; omega
        have dk' : decide (k < n + 1) = false := by simp; omega
        have he : Hid (fwdTo bs k = fwdL bs) := by show _ = _; unfold fwdL; rw [Hn.out, show k = n + 1 by omega]
        go_wp2_with fail
        go_ret3
        rw [hR.out]
        rw [he.out] at ho3
        exact ⟨_, _, _, rfl, ho3.bytesB, hb1.trans (hb3.mono hb1.size)⟩

set_option maxHeartbeats 1000000 in
theorem forwardR_any (A : Option Addr) (n c : Nat) (bs : List UInt8) (w : World) (hx : Bytes w A n c bs) (hn : n ≤ 1000000000) :
    Calls Try.prog 24 #[.slice A n c] w (RetFwd w (fwdRes bs)) := by
  have Hn := Lib.hid hx.1
  by_cases h1 : 65536 < n
  · have hR : Hid (fwdRes bs = ([], 0, 5)) := by show _ = _; unfold fwdRes; rw [Hn.out, if_pos h1]
    have Hcal := Lib.hid (refSort_long A c n w h1 hn)
    go_enter Try.func24, Try.ntmps24
    go_wp2_with fail
    refine Hcal.out.mono ?_
    rintro e w1 ⟨A1, n1, c1, rfl, -, hb1⟩
    go_wp2_with fail
    go_ret3
    rw [hR.out]
    exact ⟨none, 0, 0, rfl, Bytes.nil _ _, hb1⟩
  · have hR : Hid (fwdRes bs = (fwdL bs, primN bs, 0)) := by show _ = _; unfold fwdRes; rw [Hn.out, if_neg h1]
    have hn6 : n ≤ 65536 := by omega
    have Hcal := Lib.hid (refSort_any A c n bs w hx hn6)
    go_enter Try.func24, Try.ntmps24
    go_wp2_with fail
    refine Hcal.out.mono ?_
    rintro e w1 ⟨A1, n1, c1, rfl, hi1, hb1⟩
    have hn1 : n1 = n + 1 := by rw [← hi1.1, sortL_length, Hn.out]
    subst hn1
    obtain ⟨b, off, rfl, hbl, hcell⟩ := hi1.get (k := 0) (by omega)
    clear hcell Hcal
    have hx1 := hx.below hb1
    go_wp2_with fail
    go_loopw [7, 8, 9] (fun o p i wr => ∃ (k : Nat) (A3 : Option Addr) (n3 c3 : Nat), k ≤ n + 1 ∧ i = .int .i64 (k : Int) ∧ p = .int .i64 (primTo bs k : Int) ∧ o = .slice A3 n3 c3 ∧ n3 ≤ k ∧ Own encB wr w1.heap.size 5 A3 n3 c3 (fwdTo bs k) ∧ Below w1.heap.size w1 wr) (fun _ _ i _ => n + 1 - (intOf i).toNat)
    case atStart => exact ⟨0, _, _, _, Nat.zero_le _, rfl, rfl, rfl, Nat.le_refl _, Own.nil _ _ _ _, Below.refl _ _⟩
    case round =>
      obtain ⟨k, A3, n3, c3, hk, rfl, rfl, rfl, hn3, ho3, hb3⟩ := hrel
      by_cases hlt : k < n + 1
      · have dk : decide ((k : Int) < (n : Int) + 1) = true := by simp; omega
        have dk' : decide (k < n + 1) = true := by simp; omega
        have c1 := (hi1.below hb3).cell hlt
        obtain ⟨g0, g1⟩ := gi_sort bs (k := k) (by rw [Hn.out]; omega)
        rw [Hn.out] at g1
        have hnx : Hid (fwdTo bs (k + 1) = fwdTo bs k ++ if 0 < gi (sortL bs) k then [bs.getD ((gi (sortL bs) k).toNat - 1) 0] else []) := rfl
        have hpx : Hid (primTo bs (k + 1) = if gi (sortL bs) k = 0 then k else primTo bs k) := rfl
        obtain ⟨z, hz⟩ : ∃ z, z = gi (sortL bs) k := ⟨_, rfl⟩
        rw [← hz] at c1 g0 g1 hnx hpx
        clear hz
        obtain ⟨q, rfl⟩ : ∃ q : Nat, z = (q : Int) := ⟨z.toNat, by omega⟩
        rw [Int.toNat_natCast] at hnx
        by_cases hq : 0 < q
        · have dq : ((q : Int) == 0) = false := by simp; omega
          have dq' : (q == 0) = false := by simp; omega
          obtain ⟨b5, off5, rfl, hb5, hc5⟩ := (hx1.below hb3).get (k := q - 1) (by omega)
          have c5 := hc5 (q - 1) (by omega)
          clear hc5
          have hq1 : (1 : Int) ≤ q := by omega
          rw [if_pos (by omega)] at hnx
          rw [if_neg (by omega)] at hpx
          have hv : Hid (encB (bs.getD (q - 1) 0) = .int .u8 (gb bs (q - 1))) := rfl
          have m1 : Hid (n3 + 1 ≤ maxLen ∧ (n3 + 1) * 1 ≤ 140737488355328) := ⟨by simp [maxLen]; omega, by omega⟩
          have hB3 := hb3.size
          go_wp2_with (at_builtin; refine wpList_pushv (enc := encB) rfl (.tmp 30) (.tmp 39) rfl uB infoB encB_one rfl rfl ho3 hB3 (bs.getD (q - 1) 0) _ hv.out rfl m1.out.1 m1.out.2 ?_; intro A7 c7 W7 ho7 hb7)
          go_roundw
          case rel => exact ⟨k + 1, A7, n3 + 1, c7, by omega, by go_num, by rw [hpx.out], rfl, by omega, by rw [hnx.out]; exact ho7, hb3.trans hb7⟩
          case measure => simp [intOf]; omega
        · have hq0 : q = 0 := by omega
          subst hq0
          rw [if_neg (by omega)] at hnx
          rw [if_pos (by omega)] at hpx
          go_wp2_with fail
          go_roundw
          case rel => exact ⟨k + 1, A3, n3, c3, by omega, by go_num, by rw [hpx.out], rfl, by omega, by rw [hnx.out, List.append_nil]; exact ho3, hb3⟩
          case measure => simp [intOf]; omega
      · have dk : decide ((k : Int) < (n : Int) + 1) = false := by simp; omega
        have dk' : decide (k < n + 1) = false := by simp; omega
        have he : Hid (fwdTo bs k = fwdL bs ∧ primTo bs k = primN bs) := by
          show _ ∧ _
          obtain rfl : k = n + 1 := by omega
          refine ⟨by unfold fwdL; rw [Hn.out], ?_⟩
          rw [primTo_eq bs _ (by rw [Hn.out]; omega), if_pos (by have := primN_le bs; rw [Hn.out] at this; omega)]
        go_wp2_with fail
        go_ret3
        rw [hR.out]
        rw [he.out.1] at ho3
        rw [he.out.2]
        exact ⟨_, _, _, rfl, ho3.bytesB, hb1.trans (hb3.mono hb1.size)⟩
end Go.Proofs.Ytoodfmilleodaaa
