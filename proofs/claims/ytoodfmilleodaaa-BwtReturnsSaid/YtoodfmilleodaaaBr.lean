/- Links, Inverse, Count and Unpack of the reference of layer 33. -/
import Derived.Test.YtoodfmilleodaaaBq
namespace Go.Proofs.Ytoodfmilleodaaa
open Go.RowKit Go.Proofs Go.Sort
set_option linter.unusedVariables false

/-- the reference's count: rows below k that go ahead of row r. -/
def goesB (p : Nat) (bs : List UInt8) (r k : Nat) : Prop := k ≠ p ∧ (byteR bs p k < byteR bs p r ∨ byteR bs p k = byteR bs p r ∧ k < r)
instance (p : Nat) (bs : List UInt8) (r k : Nat) : Decidable (goesB p bs r k) := by unfold goesB; infer_instance
def refTo (p : Nat) (bs : List UInt8) (r : Nat) : Nat → Nat
  | 0 => 0
  | k + 1 => refTo p bs r k + if goesB p bs r k then 1 else 0
/-- the same by places. -/
def cntI (bs : List UInt8) (i : Nat) : Nat → Nat
  | 0 => 0
  | m + 1 => cntI bs i m + if bn bs m < bn bs i ∨ bn bs m = bn bs i ∧ m < i then 1 else 0
theorem byteR_bn (bs : List UInt8) (p r : Nat) : byteR bs p r = (bn bs (rowI p r) : Int) := by rw [byteR_eq]; rfl
theorem rowI_lt_iff {p k r : Nat} (hk : k ≠ p) (hr : r ≠ p) : rowI p k < rowI p r ↔ k < r := by
  unfold rowI
  split <;> split <;> omega
theorem refTo_cntI {p : Nat} {bs : List UInt8} {r : Nat} (hr : r ≠ p) : ∀ k, refTo p bs r k = cntI bs (rowI p r) (if k ≤ p then k else k - 1)
  | 0 => by simp [refTo, cntI]
  | k + 1 => by
    rw [refTo, refTo_cntI hr k]
    by_cases h : k = p
    · subst h
      have hg : ¬ goesB k bs r k := fun h => h.1 rfl
      rw [if_neg hg, if_pos (Nat.le_refl _), if_neg (by omega), Nat.add_sub_cancel, Nat.add_zero]
    · have hiff : goesB p bs r k ↔ bn bs (rowI p k) < bn bs (rowI p r) ∨ bn bs (rowI p k) = bn bs (rowI p r) ∧ rowI p k < rowI p r := by
        unfold goesB
        rw [byteR_bn, byteR_bn, rowI_lt_iff h hr]
        constructor
        · rintro ⟨_, h1 | ⟨h1, h2⟩⟩
          · exact .inl (by omega)
          · exact .inr ⟨by omega, h2⟩
        · rintro (h1 | ⟨h1, h2⟩)
          · exact ⟨h, .inl (by omega)⟩
          · exact ⟨h, .inr ⟨by omega, h2⟩⟩
      have hk : (if k + 1 ≤ p then k + 1 else k + 1 - 1) = rowI p k + 1 := by unfold rowI; split <;> split <;> omega
      have hk' : (if k ≤ p then k else k - 1) = rowI p k := by unfold rowI; split <;> split <;> omega
      rw [hk, hk', cntI]
      by_cases hg : goesB p bs r k
      · rw [if_pos hg, if_pos (hiff.1 hg)]
      · rw [if_neg hg, if_neg (fun x => hg (hiff.2 x))]
def lessTo (bs : List UInt8) (m d : Nat) : Nat := (bs.take m).countP fun b => decide (b.toNat < d)
theorem lessTo_next {bs : List UInt8} {m : Nat} (hm : m < bs.length) (d : Nat) : lessTo bs (m + 1) d = lessTo bs m d + if bn bs m < d then 1 else 0 := by
  unfold lessTo bn
  have e : bs.take (m + 1) = bs.take m ++ [bs.getD m 0] := by rw [List.take_succ_eq_append_getElem hm]; simp [List.getD, hm]
  rw [e, List.countP_append, List.countP_singleton]
  simp
theorem cntI_eq {bs : List UInt8} {i : Nat} (hi : i < bs.length) : ∀ m, m ≤ bs.length → cntI bs i m = lessTo bs m (bn bs i) + sameN bs (min m i) (bn bs i)
  | 0, _ => by simp [cntI, lessTo, sameN]
  | m + 1, hm => by
    rw [cntI, cntI_eq hi m (by omega), lessTo_next (by omega)]
    by_cases h : m < i
    · rw [show min (m + 1) i = m + 1 by omega, show min m i = m by omega, sameN_next (by omega)]
      by_cases h1 : bn bs m < bn bs i
      · rw [if_pos (.inl h1), if_pos h1, if_neg (by omega)]; omega
      · by_cases h2 : bn bs m = bn bs i
        · rw [if_pos (.inr ⟨h2, h⟩), if_neg h1, if_pos h2]; omega
        · rw [if_neg (by omega), if_neg h1, if_neg h2]; omega
    · rw [show min (m + 1) i = i by omega, show min m i = i by omega]
      by_cases h1 : bn bs m < bn bs i
      · rw [if_pos (.inl h1), if_pos h1]; omega
      · rw [if_neg (by omega), if_neg h1]; omega
theorem refTo_lk {p : Nat} {bs : List UInt8} (hp : p ≤ bs.length) {r : Nat} (hr : r ≤ bs.length) (hne : r ≠ p) : 1 + refTo p bs r (bs.length + 1) = lk p bs r := by
  have hi := rowI_lt hp hr hne
  rw [refTo_cntI hne, if_neg (by omega), Nat.add_sub_cancel, cntI_eq hi _ (Nat.le_refl _)]
  unfold lk lkN lessTo
  rw [if_neg hne, List.take_length, Nat.min_eq_right (by omega)]
  unfold lessN
  omega
def lkL (p : Nat) (bs : List UInt8) (k : Nat) : List Int := (List.range k).map fun r => (lk p bs r : Int)
theorem lkL_next (p : Nat) (bs : List UInt8) (k : Nat) : lkL p bs (k + 1) = lkL p bs k ++ [(lk p bs k : Int)] := by simp [lkL, List.range_succ]
theorem lkL_length (p : Nat) (bs : List UInt8) (k : Nat) : (lkL p bs k).length = k := by simp [lkL]
theorem refTo_le (p : Nat) (bs : List UInt8) (r : Nat) : ∀ k, refTo p bs r k ≤ k
  | 0 => Nat.le_refl _
  | k + 1 => by rw [refTo]; have := refTo_le p bs r k; split <;> omega

set_option maxRecDepth 100000 in
set_option maxHeartbeats 4000000 in
theorem linksR_any (A : Option Addr) (n c : Nat) (p : Int) (bs : List UInt8) (w : World) (hx : Bytes w A n c bs) (hn : n ≤ 1000000000) :
    Calls Try.prog 25 #[.slice A n c, .int .i64 p] w (RetInts w (lkRes bs p) (limE n p)) := by
  have Hn := Lib.hid hx.1
  have Hcal := Lib.hid (limits_any A n c p w hn)
  by_cases h : limE n p = 0
  · obtain ⟨h1, h2, h3⟩ := limE_zero h
    have hR : Hid (lkRes bs p = lkAll p.toNat bs) := by show _ = _; unfold lkRes; rw [Hn.out, if_pos h]
    rw [h] at Hcal
    rw [h]
    clear h
    obtain ⟨q, rfl⟩ : ∃ q : Nat, p = (q : Int) := ⟨p.toNat, by omega⟩
    rw [Int.toNat_natCast] at hR
    have hq : q ≤ n := by omega
    clear h2 h3
    go_enter Try.func25, Try.ntmps25
    go_wp2_with fail
    refine Hcal.out.mono ?_
    rintro e w1 ⟨rfl, hw1⟩
    obtain rfl : w = w1 := hw1.symm
    clear Hcal
    go_wp2_with fail
    go_loopw [7, 8, 9, 10] (fun o i _ _ wr => ∃ (r : Nat) (A3 : Option Addr) (c3 : Nat), r ≤ n + 1 ∧ i = .int .i64 (r : Int) ∧ o = .slice A3 r c3 ∧ Own (Value.int .i64) wr w.heap.size 3 A3 r c3 (lkL q bs r) ∧ Below w.heap.size w wr) (fun _ i _ _ _ => n + 1 - (intOf i).toNat)
    case atStart => exact ⟨0, none, 0, Nat.zero_le _, rfl, rfl, Own.nil _ _ _ _, Below.refl _ _⟩
    case round =>
      obtain ⟨r, A3, c3, hr, rfl, rfl, ho3, hb3⟩ := hrel
      have hB3 := hb3.size
      have m1 : Hid (r + 1 ≤ maxLen ∧ (r + 1) * 8 ≤ 140737488355328) := ⟨by simp [maxLen]; omega, by omega⟩
      by_cases hlt : r ≤ n
      · have dk : decide ((r : Int) ≤ (n : Int)) = true := by simp; omega
        have dk' : decide (r ≤ n) = true := by simp; omega
        have hnx := Lib.hid (lkL_next q bs r)
        by_cases hrp : r = q
        · have d1 : ((r : Int) == (q : Int)) = true := by simp; omega
          have d1' : (r == q) = true := by simp; omega
          have hl0 : Hid (lk q bs r = 0) := by show _ = _; unfold lk; rw [if_pos hrp]
          clear hrp
          rw [hl0.out] at hnx
          go_wp2_with (at_builtin; refine wpList_push (enc := Value.int .i64) rfl (.tmp 26) (.tmp 27) rfl uI infoI (fun _ => rfl) rfl rfl ho3 hB3 0 rfl m1.out.1 m1.out.2 ?_; intro A7 c7 W7 ho7 hb7)
          go_roundw
          case rel => exact ⟨r + 1, A7, c7, by omega, by go_num, rfl, by rw [hnx.out]; exact ho7, hb3.trans hb7⟩
          case measure => simp [intOf]; omega
        · have d1 : ((r : Int) == (q : Int)) = false := by simp; omega
          have d1' : (r == q) = false := by simp; omega
          have hfin : Hid (1 + refTo q bs r (n + 1) = lk q bs r) := by show _ = _; rw [← Hn.out]; exact refTo_lk (by rw [Hn.out]; exact hq) (by rw [Hn.out]; exact hlt) hrp
          have hxr := hx.below hb3
          have HBr := Lib.hid (byte_any A n c q r bs wr hxr h1 hq hlt hrp)
          obtain ⟨br, hbr⟩ : ∃ br, br = byteR bs q r := ⟨_, rfl⟩
          have Hbr := Lib.hid hbr
          rw [← hbr] at HBr
          clear hbr hrp
          go_wp2_with fail
          go_loop [9, 10] (fun x k => ∃ j : Nat, j ≤ n + 1 ∧ k = .int .i64 (j : Int) ∧ x = .int .i64 (1 + (refTo q bs r j : Int))) (fun _ k => n + 1 - (intOf k).toNat)
          case atStart => exact ⟨0, Nat.zero_le _, rfl, rfl⟩
          case round =>
            obtain ⟨j, hj, rfl, rfl⟩ := hrel
            have hrl := refTo_le q bs r j
            have hstep : Hid (refTo q bs r (j + 1) = refTo q bs r j + if goesB q bs r j then 1 else 0) := rfl
            obtain ⟨x, hx'⟩ : ∃ x, x = refTo q bs r j := ⟨_, rfl⟩
            have Hx := Lib.hid hx'
            rw [← hx'] at hrl hstep ⊢
            clear hx'
            by_cases hjn : j ≤ n
            · have dj : decide ((j : Int) ≤ (n : Int)) = true := by simp; omega
              have dj' : decide (j ≤ n) = true := by simp; omega
              by_cases hjp : j = q
              · have d2 : ((j : Int) != (q : Int)) = false := by simp; omega
                have d2' : (j != q) = false := by simp; omega
                have hs2 : Hid (refTo q bs r (j + 1) = x) := by show _ = _; rw [hstep.out, if_neg (fun h => h.1 hjp), Nat.add_zero]
                clear hjp hstep
                go_wp2_with fail
                go_round
                case rel => exact ⟨j + 1, by omega, by go_num, by rw [hs2.out]⟩
                case measure => simp [intOf]; omega
              · have d2 : ((j : Int) != (q : Int)) = true := by simp; omega
                have d2' : (j != q) = true := by simp; omega
                have HBj := Lib.hid (byte_any A n c q j bs wr hxr h1 hq hjn hjp)
                obtain ⟨bj, hbj⟩ : ∃ bj, bj = byteR bs q j := ⟨_, rfl⟩
                rw [← hbj] at HBj
                have hgo : goesB q bs r j ↔ (bj < br ∨ bj = br ∧ j < r) := by
                  unfold goesB; rw [hbj, Hbr.out]; exact ⟨fun h => h.2, fun h => ⟨hjp, h⟩⟩
                clear hbj hjp
                by_cases hb1 : bj < br
                · have d3 : decide (bj < br) = true := by simp; omega
                  have hs2 : Hid (refTo q bs r (j + 1) = x + 1) := by show _ = _; rw [hstep.out, if_pos (hgo.2 (.inl hb1))]
                  clear hgo hstep
                  go_wp2_with (first | (go_at_call_of 48 (Value.int .i64 (j : Int)); refine HBj.out.mono ?_; rintro e w5 ⟨rfl, hw5⟩; obtain rfl : wr = w5 := hw5.symm) | (go_at_call_of 48 (Value.int .i64 (r : Int)); refine HBr.out.mono ?_; rintro e w5 ⟨rfl, hw5⟩; obtain rfl : wr = w5 := hw5.symm))
                  go_round
                  case rel => exact ⟨j + 1, by omega, by go_num, by rw [hs2.out]; go_num⟩
                  case measure => simp [intOf]; omega
                · have d3 : decide (bj < br) = false := by simp; omega
                  by_cases hb2 : bj = br
                  · have d4 : (bj == br) = true := by simp; omega
                    by_cases hjr : j < r
                    · have d5 : decide ((j : Int) < (r : Int)) = true := by simp; omega
                      have d5' : decide (j < r) = true := by simp; omega
                      have hs2 : Hid (refTo q bs r (j + 1) = x + 1) := by show _ = _; rw [hstep.out, if_pos (hgo.2 (.inr ⟨hb2, hjr⟩))]
                      clear hgo hstep hb2
                      go_wp2_with (first | (go_at_call_of 48 (Value.int .i64 (j : Int)); refine HBj.out.mono ?_; rintro e w5 ⟨rfl, hw5⟩; obtain rfl : wr = w5 := hw5.symm) | (go_at_call_of 48 (Value.int .i64 (r : Int)); refine HBr.out.mono ?_; rintro e w5 ⟨rfl, hw5⟩; obtain rfl : wr = w5 := hw5.symm))
                      go_round
                      case rel => exact ⟨j + 1, by omega, by go_num, by rw [hs2.out]; go_num⟩
                      case measure => simp [intOf]; omega
                    · have d5 : decide ((j : Int) < (r : Int)) = false := by simp; omega
                      have d5' : decide (j < r) = false := by simp; omega
                      have hs2 : Hid (refTo q bs r (j + 1) = x) := by show _ = _; rw [hstep.out, if_neg (fun h => by have := hgo.1 h; omega), Nat.add_zero]
                      clear hgo hstep hb2
                      go_wp2_with (first | (go_at_call_of 48 (Value.int .i64 (j : Int)); refine HBj.out.mono ?_; rintro e w5 ⟨rfl, hw5⟩; obtain rfl : wr = w5 := hw5.symm) | (go_at_call_of 48 (Value.int .i64 (r : Int)); refine HBr.out.mono ?_; rintro e w5 ⟨rfl, hw5⟩; obtain rfl : wr = w5 := hw5.symm))
                      go_round
                      case rel => exact ⟨j + 1, by omega, by go_num, by rw [hs2.out]⟩
                      case measure => simp [intOf]; omega
                  · have d4 : (bj == br) = false := by simp; omega
                    have hs2 : Hid (refTo q bs r (j + 1) = x) := by show _ = _; rw [hstep.out, if_neg (fun h => by have := hgo.1 h; omega), Nat.add_zero]
                    clear hgo hstep
                    go_wp2_with (first | (go_at_call_of 48 (Value.int .i64 (j : Int)); refine HBj.out.mono ?_; rintro e w5 ⟨rfl, hw5⟩; obtain rfl : wr = w5 := hw5.symm) | (go_at_call_of 48 (Value.int .i64 (r : Int)); refine HBr.out.mono ?_; rintro e w5 ⟨rfl, hw5⟩; obtain rfl : wr = w5 := hw5.symm))
                    go_round
                    case rel => exact ⟨j + 1, by omega, by go_num, by rw [hs2.out]⟩
                    case measure => simp [intOf]; omega
            · have dj : decide ((j : Int) ≤ (n : Int)) = false := by simp; omega
              have dj' : decide (j ≤ n) = false := by simp; omega
              have hv : Hid ((lk q bs r : Int) = 1 + (x : Int)) := by
                show _ = _
                obtain rfl : j = n + 1 := by omega
                rw [← hfin.out, ← Hx.out]; omega
              rw [hv.out] at hnx
              go_wp2_with (at_builtin; refine wpList_push (enc := Value.int .i64) rfl (.tmp 67) (.tmp 69) rfl uI infoI (fun _ => rfl) rfl rfl ho3 hB3 (1 + (x : Int)) rfl m1.out.1 m1.out.2 ?_; intro A7 c7 W7 ho7 hb7)
              go_roundw
              case rel => exact ⟨r + 1, A7, c7, by omega, by go_num, rfl, by rw [hnx.out]; exact ho7, hb3.trans hb7⟩
              case measure => simp [intOf]; omega
      · have dk : decide ((r : Int) ≤ (n : Int)) = false := by simp; omega
        have dk' : decide (r ≤ n) = false := by simp; omega
        have he : Hid (lkL q bs r = lkAll q bs) := by
          show _ = _
          obtain rfl : r = n + 1 := by omega
          rw [lkAll_eq (by rw [Hn.out]; exact hq), Hn.out]; rfl
        go_wp2_with fail
        go_ret2
        rw [hR.out, ← he.out]
        exact RetInts.mk rfl ho3.ints hb3
  · have hR : Hid (lkRes bs p = []) := by show _ = _; unfold lkRes; rw [Hn.out, if_neg h]
    obtain ⟨x, hx'⟩ : ∃ x, x = limE n p := ⟨_, rfl⟩
    rw [← hx'] at Hcal h ⊢
    clear hx'
    have d0 : (x != 0) = true := by simp; exact h
    go_enter Try.func25, Try.ntmps25
    go_wp2_with fail
    refine Hcal.out.mono ?_
    rintro e w1 ⟨rfl, hw1⟩
    obtain rfl : w = w1 := hw1.symm
    go_wp2_with fail
    go_ret2
    rw [hR.out]
    exact RetInts.mk rfl (Ints.nil _ _) (Below.refl _ _)
end Go.Proofs.Ytoodfmilleodaaa
