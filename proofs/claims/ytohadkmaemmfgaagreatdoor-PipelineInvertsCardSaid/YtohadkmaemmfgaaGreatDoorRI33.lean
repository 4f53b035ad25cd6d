/- Bo Bq Cq By Br Bs Bt Bz Cf Cs. -/
import Derived.Test.YtohadkmaemmfgaaGreatDoorRI16
import Derived.Test.YtohadkmaemmfgaaGreatDoorRI31
import Derived.Test.YtohadkmaemmfgaaGreatDoorRI32
set_option maxRecDepth 100000
set_option maxHeartbeats 4000000
namespace Go.Proofs.YtohadkmaemmfgaaGreatDoor.Bwt
open Go.RowKit Go.Proofs Go.Sort
set_option linter.unusedVariables false

def unpackRes (bs : List UInt8) : List UInt8 × Int := if 65536 < bs.length then ([], 5) else if (intL bs).2.2 ≠ 0 then ([], ((intL bs).2.2 : Int)) else (invRes (intL bs).2.1 ((intL bs).1 : Int), invErr (intL bs).2.1 ((intL bs).1 : Int))
theorem intL_len (bs : List UInt8) : (intL bs).2.1.length ≤ bs.length := by
  unfold intL
  split
  · simp
  · split
    · simp
    · split
      · simp
      · split
        · simp
        · simp
theorem unpack_any (A : Option Addr) (n c : Nat) (bs : List UInt8) (w : World) (hx : Bytes w A n c bs) (hn : n ≤ 1000000000) :
    Calls Tryz.prog 40 #[.slice A n c] w (RetBytes w (unpackRes bs).1 (unpackRes bs).2) := by
  have Hn := Lib.hid hx.1
  by_cases h1 : 65536 < n
  · have hR : Hid (unpackRes bs = ([], 5)) := by show _ = _; unfold unpackRes; rw [Hn.out, if_pos h1]
    have d1 : decide ((65536 : Int) < (n : Int)) = true := by simp; omega
    have d2 : decide (65536 < n) = true := by simp; omega
    go_enter Tryz.func40, Tryz.ntmps40
    go_wp2_with fail
    go_ret2
    rw [hR.out]
    exact RetBytes.err rfl (Below.refl _ _)
  · have d1 : decide ((65536 : Int) < (n : Int)) = false := by simp; omega
    have d2 : decide (65536 < n) = false := by simp; omega
    have hU : unpackRes bs = if (intL bs).2.2 ≠ 0 then ([], ((intL bs).2.2 : Int)) else (invRes (intL bs).2.1 ((intL bs).1 : Int), invErr (intL bs).2.1 ((intL bs).1 : Int)) := by unfold unpackRes; rw [Hn.out, if_neg h1]
    have hcal := intP_any A n c bs w hx (by omega)
    have hil := intL_len bs
    rw [Hn.out] at hil
    obtain ⟨x, hxe⟩ : ∃ x, x = intL bs := ⟨_, rfl⟩
    rw [← hxe] at hcal hU hil
    clear hxe
    obtain ⟨v, rest, er⟩ := x
    simp only at hU hil
    have Hcal := Lib.hid hcal; clear hcal
    by_cases he : er = 0
    · subst he
      rw [if_neg (by simp)] at hU
      have HU := Lib.hid hU; clear hU
      go_enter Tryz.func40, Tryz.ntmps40
      go_wp2_with fail
      refine Hcal.out.mono ?_
      rintro e w1 ⟨A1, n1, c1, rfl, ho1, hb1⟩
      have hl1 := ho1.length
      simp only at hl1
      have Hc2 := Lib.hid (inverseP_any A1 n1 c1 (v : Int) rest w1 ho1.bytesBBwt (by omega))
      clear Hcal
      go_wp2_with fail
      refine Hc2.out.mono ?_
      rintro e w2 ⟨A2, n2, c2, rfl, hx2, hb2⟩
      go_wp2_with fail
      go_ret2
      rw [HU.out]
      exact RetBytes.mk rfl hx2 (hb1.trans (hb2.mono hb1.size))
    · rw [if_pos he] at hU
      have HU := Lib.hid hU; clear hU
      have d3 : ((er : Int) != 0) = true := by simp; exact he
      clear he
      go_enter Tryz.func40, Tryz.ntmps40
      go_wp2_with fail
      refine Hcal.out.mono ?_
      rintro e w1 ⟨A1, n1, c1, rfl, ho1, hb1⟩
      go_wp2_with fail
      go_ret2
      rw [HU.out]
      exact RetBytes.err rfl hb1
end Go.Proofs.YtohadkmaemmfgaaGreatDoor.Bwt
namespace Go.Proofs.YtohadkmaemmfgaaGreatDoor.Bwt
open Go.RowKit Go.Proofs Go.Sort
set_option linter.unusedVariables false
set_option linter.unusedSimpArgs false
theorem encN (n r : Nat) (h : r = n % 256) : encB (UInt8.ofNat n) = .int .u8 (r : Int) := by
  unfold encB; rw [UInt8.toNat_ofNat', h]
end Go.Proofs.YtohadkmaemmfgaaGreatDoor.Bwt
namespace Go.Proofs.YtohadkmaemmfgaaGreatDoor.Bwt
open Go.RowKit Go.Proofs
set_option linter.unusedVariables false
section
variable {p : Nat} {bs : List UInt8}
end
end Go.Proofs.YtohadkmaemmfgaaGreatDoor.Bwt
namespace Go.Proofs.YtohadkmaemmfgaaGreatDoor.Bwt
open Go.RowKit Go.Proofs Go.Sort
set_option linter.unusedVariables false
def goesB (p : Nat) (bs : List UInt8) (r k : Nat) : Prop := k ≠ p ∧ (byteR bs p k < byteR bs p r ∨ byteR bs p k = byteR bs p r ∧ k < r)
instance (p : Nat) (bs : List UInt8) (r k : Nat) : Decidable (goesB p bs r k) := by unfold goesB; infer_instance
def refTo (p : Nat) (bs : List UInt8) (r : Nat) : Nat → Nat
  | 0 => 0
  | k + 1 => refTo p bs r k + if goesB p bs r k then 1 else 0
def cntI (bs : List UInt8) (i : Nat) : Nat → Nat
  | 0 => 0
  | m + 1 => cntI bs i m + if bn bs m < bn bs i ∨ bn bs m = bn bs i ∧ m < i then 1 else 0
theorem byteR_bn (bs : List UInt8) (p r : Nat) : byteR bs p r = (bn bs (rowI p r) : Int) := by rw [byteR_eq]; rfl
theorem rowI_lt_iff {p k r : Nat} (hk : k ≠ p) (hr : r ≠ p) : rowI p k < rowI p r ↔ k < r := by
  unfold rowI
  split <;> split <;> omega
theorem refTo_cntI {p : Nat} {bs : List UInt8} {r : Nat} (hr : r ≠ p) : ∀ k, refTo p bs r k = cntI bs (rowI p r) (if k ≤ p then k else k - 1)
  | 0 => by simp [refTo, cntI]
  | k + 1 => by
    rw [refTo, refTo_cntI hr k]
    by_cases h : k = p
    · subst h
      have hg : ¬ goesB k bs r k := fun h => h.1 rfl
      rw [if_neg hg, if_pos (Nat.le_refl _), if_neg (by omega), Nat.add_sub_cancel, Nat.add_zero]
    · have hiff : goesB p bs r k ↔ bn bs (rowI p k) < bn bs (rowI p r) ∨ bn bs (rowI p k) = bn bs (rowI p r) ∧ rowI p k < rowI p r := by
        unfold goesB
        rw [byteR_bn, byteR_bn, rowI_lt_iff h hr]
        constructor
        · rintro ⟨_, h1 | ⟨h1, h2⟩⟩
          · exact .inl (by omega)
          · exact .inr ⟨by omega, h2⟩
        · rintro (h1 | ⟨h1, h2⟩)
          · exact ⟨h, .inl (by omega)⟩
          · exact ⟨h, .inr ⟨by omega, h2⟩⟩
      have hk : (if k + 1 ≤ p then k + 1 else k + 1 - 1) = rowI p k + 1 := by unfold rowI; split <;> split <;> omega
      have hk' : (if k ≤ p then k else k - 1) = rowI p k := by unfold rowI; split <;> split <;> omega
      rw [hk, hk', cntI]
      by_cases hg : goesB p bs r k
      · rw [if_pos hg, if_pos (hiff.1 hg)]
      · rw [if_neg hg, if_neg (fun x => hg (hiff.2 x))]
def lessTo (bs : List UInt8) (m d : Nat) : Nat := (bs.take m).countP fun b => decide (b.toNat < d)
theorem lessTo_next {bs : List UInt8} {m : Nat} (hm : m < bs.length) (d : Nat) : lessTo bs (m + 1) d = lessTo bs m d + if bn bs m < d then 1 else 0 := by
  unfold lessTo bn
  have e : bs.take (m + 1) = bs.take m ++ [bs.getD m 0] := by rw [List.take_succ_eq_append_getElem hm]; simp [List.getD, hm]
  rw [e, List.countP_append, List.countP_singleton]
  simp
theorem cntI_eq {bs : List UInt8} {i : Nat} (hi : i < bs.length) : ∀ m, m ≤ bs.length → cntI bs i m = lessTo bs m (bn bs i) + sameN bs (min m i) (bn bs i)
  | 0, _ => by simp [cntI, lessTo, sameN]
  | m + 1, hm => by
    rw [cntI, cntI_eq hi m (by omega), lessTo_next (by omega)]
    by_cases h : m < i
    · rw [show min (m + 1) i = m + 1 by omega, show min m i = m by omega, sameN_next (by omega)]
      by_cases h1 : bn bs m < bn bs i
      · rw [if_pos (.inl h1), if_pos h1, if_neg (by omega)]; omega
      · by_cases h2 : bn bs m = bn bs i
        · rw [if_pos (.inr ⟨h2, h⟩), if_neg h1, if_pos h2]; omega
        · rw [if_neg (by omega), if_neg h1, if_neg h2]; omega
    · rw [show min (m + 1) i = i by omega, show min m i = i by omega]
      by_cases h1 : bn bs m < bn bs i
      · rw [if_pos (.inl h1), if_pos h1]; omega
      · rw [if_neg (by omega), if_neg h1]; omega
theorem refTo_lk {p : Nat} {bs : List UInt8} (hp : p ≤ bs.length) {r : Nat} (hr : r ≤ bs.length) (hne : r ≠ p) : 1 + refTo p bs r (bs.length + 1) = lk p bs r := by
  have hi := rowI_lt hp hr hne
  rw [refTo_cntI hne, if_neg (by omega), Nat.add_sub_cancel, cntI_eq hi _ (Nat.le_refl _)]
  unfold lk lkN lessTo
  rw [if_neg hne, List.take_length, Nat.min_eq_right (by omega)]
  unfold lessN
  omega
def lkL (p : Nat) (bs : List UInt8) (k : Nat) : List Int := (List.range k).map fun r => (lk p bs r : Int)
theorem lkL_next (p : Nat) (bs : List UInt8) (k : Nat) : lkL p bs (k + 1) = lkL p bs k ++ [(lk p bs k : Int)] := by simp [lkL, List.range_succ]
theorem refTo_le (p : Nat) (bs : List UInt8) (r : Nat) : ∀ k, refTo p bs r k ≤ k
  | 0 => Nat.le_refl _
  | k + 1 => by rw [refTo]; have := refTo_le p bs r k; split <;> omega
theorem linksR_any (A : Option Addr) (n c : Nat) (p : Int) (bs : List UInt8) (w : World) (hx : Bytes w A n c bs) (hn : n ≤ 1000000000) :
    Calls Tryz.prog 189 #[.slice A n c, .int .i64 p] w (RetInts w (lkRes bs p) (limE n p)) := by
  have Hn := Lib.hid hx.1
  have Hcal := Lib.hid (limits_any A n c p w hn)
  by_cases h : limE n p = 0
  · obtain ⟨h1, h2, h3⟩ := limE_zero h
    have hR : Hid (lkRes bs p = lkAll p.toNat bs) := by show _ = _; unfold lkRes; rw [Hn.out, if_pos h]
    rw [h] at Hcal
    rw [h]
    clear h
    obtain ⟨q, rfl⟩ : ∃ q : Nat, p = (q : Int) := ⟨p.toNat, by omega⟩
    rw [Int.toNat_natCast] at hR
    have hq : q ≤ n := by omega
    clear h2 h3
    go_enter Tryz.func189, Tryz.ntmps189
    go_wp2_with fail
    refine Hcal.out.mono ?_
    rintro e w1 ⟨rfl, hw1⟩
    obtain rfl : w = w1 := hw1.symm
    clear Hcal
    go_wp2_with fail
    go_loopw [7, 8, 9, 10] (fun o i _ _ wr => ∃ (r : Nat) (A3 : Option Addr) (c3 : Nat), r ≤ n + 1 ∧ i = .int .i64 (r : Int) ∧ o = .slice A3 r c3 ∧ Own (Value.int .i64) wr w.heap.size 3 A3 r c3 (lkL q bs r) ∧ Below w.heap.size w wr) (fun _ i _ _ _ => n + 1 - (intOf i).toNat)
    case atStart => exact ⟨0, none, 0, Nat.zero_le _, rfl, rfl, Own.nil _ _ _ _, Below.refl _ _⟩
    case round =>
      obtain ⟨r, A3, c3, hr, rfl, rfl, ho3, hb3⟩ := hrel
      have hB3 := hb3.size
      have m1 : Hid (r + 1 ≤ maxLen ∧ (r + 1) * 8 ≤ 140737488355328) := ⟨by simp [maxLen]; omega, by omega⟩
      by_cases hlt : r ≤ n
      · have dk : decide ((r : Int) ≤ (n : Int)) = true := by simp; omega
        have dk' : decide (r ≤ n) = true := by simp; omega
        have hnx := Lib.hid (lkL_next q bs r)
        by_cases hrp : r = q
        · have d1 : ((r : Int) == (q : Int)) = true := by simp; omega
          have d1' : (r == q) = true := by simp; omega
          have hl0 : Hid (lk q bs r = 0) := by show _ = _; unfold lk; rw [if_pos hrp]
          clear hrp
          rw [hl0.out] at hnx
          go_wp2_with (at_builtin; refine wpList_push (enc := Value.int .i64) rfl (.tmp 26) (.tmp 27) rfl uI infoI (fun _ => rfl) rfl rfl ho3 hB3 0 rfl m1.out.1 m1.out.2 ?_; intro A7 c7 W7 ho7 hb7)
          go_roundw
          case rel => exact ⟨r + 1, A7, c7, by omega, by go_num, rfl, by rw [hnx.out]; exact ho7, hb3.trans hb7⟩
          case measure => simp [intOf]; omega
        · have d1 : ((r : Int) == (q : Int)) = false := by simp; omega
          have d1' : (r == q) = false := by simp; omega
          have hfin : Hid (1 + refTo q bs r (n + 1) = lk q bs r) := by show _ = _; rw [← Hn.out]; exact refTo_lk (by rw [Hn.out]; exact hq) (by rw [Hn.out]; exact hlt) hrp
          have hxr := hx.below hb3
          have HBr := Lib.hid (byte_any A n c q r bs wr hxr h1 hq hlt hrp)
          obtain ⟨br, hbr⟩ : ∃ br, br = byteR bs q r := ⟨_, rfl⟩
          have Hbr := Lib.hid hbr
          rw [← hbr] at HBr
          clear hbr hrp
          go_wp2_with fail
          go_loop [9, 10] (fun x k => ∃ j : Nat, j ≤ n + 1 ∧ k = .int .i64 (j : Int) ∧ x = .int .i64 (1 + (refTo q bs r j : Int))) (fun _ k => n + 1 - (intOf k).toNat)
          case atStart => exact ⟨0, Nat.zero_le _, rfl, rfl⟩
          case round =>
            obtain ⟨j, hj, rfl, rfl⟩ := hrel
            have hrl := refTo_le q bs r j
            have hstep : Hid (refTo q bs r (j + 1) = refTo q bs r j + if goesB q bs r j then 1 else 0) := rfl
            obtain ⟨x, hx'⟩ : ∃ x, x = refTo q bs r j := ⟨_, rfl⟩
            have Hx := Lib.hid hx'
            rw [← hx'] at hrl hstep ⊢
            clear hx'
            by_cases hjn : j ≤ n
            · have dj : decide ((j : Int) ≤ (n : Int)) = true := by simp; omega
              have dj' : decide (j ≤ n) = true := by simp; omega
              by_cases hjp : j = q
              · have d2 : ((j : Int) != (q : Int)) = false := by simp; omega
                have d2' : (j != q) = false := by simp; omega
                have hs2 : Hid (refTo q bs r (j + 1) = x) := by show _ = _; rw [hstep.out, if_neg (fun h => h.1 hjp), Nat.add_zero]
                clear hjp hstep
                go_wp2_with fail
                go_round
                case rel => exact ⟨j + 1, by omega, by go_num, by rw [hs2.out]⟩
                case measure => simp [intOf]; omega
              · have d2 : ((j : Int) != (q : Int)) = true := by simp; omega
                have d2' : (j != q) = true := by simp; omega
                have HBj := Lib.hid (byte_any A n c q j bs wr hxr h1 hq hjn hjp)
                obtain ⟨bj, hbj⟩ : ∃ bj, bj = byteR bs q j := ⟨_, rfl⟩
                rw [← hbj] at HBj
                have hgo : goesB q bs r j ↔ (bj < br ∨ bj = br ∧ j < r) := by
                  unfold goesB; rw [hbj, Hbr.out]; exact ⟨fun h => h.2, fun h => ⟨hjp, h⟩⟩
                clear hbj hjp
                by_cases hb1 : bj < br
                · have d3 : decide (bj < br) = true := by simp; omega
                  have hs2 : Hid (refTo q bs r (j + 1) = x + 1) := by show _ = _; rw [hstep.out, if_pos (hgo.2 (.inl hb1))]
                  clear hgo hstep
                  go_wp2_with (first | (go_at_call_of 190 (Value.int .i64 (j : Int)); refine HBj.out.mono ?_; rintro e w5 ⟨rfl, hw5⟩; obtain rfl : wr = w5 := hw5.symm) | (go_at_call_of 190 (Value.int .i64 (r : Int)); refine HBr.out.mono ?_; rintro e w5 ⟨rfl, hw5⟩; obtain rfl : wr = w5 := hw5.symm))
                  go_round
                  case rel => exact ⟨j + 1, by omega, by go_num, by rw [hs2.out]; go_num⟩
                  case measure => simp [intOf]; omega
                · have d3 : decide (bj < br) = false := by simp; omega
                  by_cases hb2 : bj = br
                  · have d4 : (bj == br) = true := by simp; omega
                    by_cases hjr : j < r
                    · have d5 : decide ((j : Int) < (r : Int)) = true := by simp; omega
                      have d5' : decide (j < r) = true := by simp; omega
                      have hs2 : Hid (refTo q bs r (j + 1) = x + 1) := by show _ = _; rw [hstep.out, if_pos (hgo.2 (.inr ⟨hb2, hjr⟩))]
                      clear hgo hstep hb2
                      go_wp2_with (first | (go_at_call_of 190 (Value.int .i64 (j : Int)); refine HBj.out.mono ?_; rintro e w5 ⟨rfl, hw5⟩; obtain rfl : wr = w5 := hw5.symm) | (go_at_call_of 190 (Value.int .i64 (r : Int)); refine HBr.out.mono ?_; rintro e w5 ⟨rfl, hw5⟩; obtain rfl : wr = w5 := hw5.symm))
                      go_round
                      case rel => exact ⟨j + 1, by omega, by go_num, by rw [hs2.out]; go_num⟩
                      case measure => simp [intOf]; omega
                    · have d5 : decide ((j : Int) < (r : Int)) = false := by simp; omega
                      have d5' : decide (j < r) = false := by simp; omega
                      have hs2 : Hid (refTo q bs r (j + 1) = x) := by show _ = _; rw [hstep.out, if_neg (fun h => by have := hgo.1 h; omega), Nat.add_zero]
                      clear hgo hstep hb2
                      go_wp2_with (first | (go_at_call_of 190 (Value.int .i64 (j : Int)); refine HBj.out.mono ?_; rintro e w5 ⟨rfl, hw5⟩; obtain rfl : wr = w5 := hw5.symm) | (go_at_call_of 190 (Value.int .i64 (r : Int)); refine HBr.out.mono ?_; rintro e w5 ⟨rfl, hw5⟩; obtain rfl : wr = w5 := hw5.symm))
                      go_round
                      case rel => exact ⟨j + 1, by omega, by go_num, by rw [hs2.out]⟩
                      case measure => simp [intOf]; omega
                  · have d4 : (bj == br) = false := by simp; omega
                    have hs2 : Hid (refTo q bs r (j + 1) = x) := by show _ = _; rw [hstep.out, if_neg (fun h => by have := hgo.1 h; omega), Nat.add_zero]
                    clear hgo hstep
                    go_wp2_with (first | (go_at_call_of 190 (Value.int .i64 (j : Int)); refine HBj.out.mono ?_; rintro e w5 ⟨rfl, hw5⟩; obtain rfl : wr = w5 := hw5.symm) | (go_at_call_of 190 (Value.int .i64 (r : Int)); refine HBr.out.mono ?_; rintro e w5 ⟨rfl, hw5⟩; obtain rfl : wr = w5 := hw5.symm))
                    go_round
                    case rel => exact ⟨j + 1, by omega, by go_num, by rw [hs2.out]⟩
                    case measure => simp [intOf]; omega
            · have dj : decide ((j : Int) ≤ (n : Int)) = false := by simp; omega
              have dj' : decide (j ≤ n) = false := by simp; omega
              have hv : Hid ((lk q bs r : Int) = 1 + (x : Int)) := by
                show _ = _
                obtain rfl : j = n + 1 := by omega
                rw [← hfin.out, ← Hx.out]; omega
              rw [hv.out] at hnx
              go_wp2_with (at_builtin; refine wpList_push (enc := Value.int .i64) rfl (.tmp 67) (.tmp 69) rfl uI infoI (fun _ => rfl) rfl rfl ho3 hB3 (1 + (x : Int)) rfl m1.out.1 m1.out.2 ?_; intro A7 c7 W7 ho7 hb7)
              go_roundw
              case rel => exact ⟨r + 1, A7, c7, by omega, by go_num, rfl, by rw [hnx.out]; exact ho7, hb3.trans hb7⟩
              case measure => simp [intOf]; omega
      · have dk : decide ((r : Int) ≤ (n : Int)) = false := by simp; omega
        have dk' : decide (r ≤ n) = false := by simp; omega
        have he : Hid (lkL q bs r = lkAll q bs) := by
          show _ = _
          obtain rfl : r = n + 1 := by omega
          rw [lkAll_eq (by rw [Hn.out]; exact hq), Hn.out]; rfl
        go_wp2_with fail
        go_ret2
        rw [hR.out, ← he.out]
        exact RetInts.mk rfl ho3.ints hb3
  · have hR : Hid (lkRes bs p = []) := by show _ = _; unfold lkRes; rw [Hn.out, if_neg h]
    obtain ⟨x, hx'⟩ : ∃ x, x = limE n p := ⟨_, rfl⟩
    rw [← hx'] at Hcal h ⊢
    clear hx'
    have d0 : (x != 0) = true := by simp; exact h
    go_enter Tryz.func189, Tryz.ntmps189
    go_wp2_with fail
    refine Hcal.out.mono ?_
    rintro e w1 ⟨rfl, hw1⟩
    obtain rfl : w = w1 := hw1.symm
    go_wp2_with fail
    go_ret2
    rw [hR.out]
    exact RetInts.mk rfl (Ints.nil _ _) (Below.refl _ _)
theorem rev_step (l : List UInt8) {j : Nat} (hj : j < l.length) : (l.drop j).reverse = (l.drop (j + 1)).reverse ++ [l.getD j 0] := by
  rw [List.drop_eq_getElem_cons hj, List.reverse_cons]
  simp [List.getD, hj]
theorem inverseR_any (A : Option Addr) (n c : Nat) (p : Int) (bs : List UInt8) (w : World) (hx : Bytes w A n c bs) (hn : n ≤ 1000000000) :
    Calls Tryz.prog 116 #[.slice A n c, .int .i64 p] w (RetBytes w (invRes bs p) (invErr bs p)) := by
  have Hn := Lib.hid hx.1
  have hcal := linksR_any A n c p bs w hx hn
  by_cases h : limE n p = 0
  · obtain ⟨h1, h2, h3⟩ := limE_zero h
    have hR : Hid (invRes bs p = invL p.toNat bs ∧ invErr bs p = invE p.toNat bs) := by show _ ∧ _; unfold invRes invErr; rw [Hn.out, if_pos h, if_pos h]; exact ⟨rfl, rfl⟩
    have hL : lkRes bs p = lkAll p.toNat bs := by unfold lkRes; rw [Hn.out, if_pos h]
    rw [h, hL] at hcal
    clear h hL
    obtain ⟨q, rfl⟩ : ∃ q : Nat, p = (q : Int) := ⟨p.toNat, by omega⟩
    rw [Int.toNat_natCast] at hR hcal
    have Hcal := Lib.hid hcal; clear hcal
    have hq : q ≤ n := by omega
    have hq' : Hid (q ≤ bs.length) := by show _ ≤ _; rw [Hn.out]; exact hq
    clear h2 h3
    go_enter Tryz.func116, Tryz.ntmps116
    go_wp2_with fail
    refine Hcal.out.mono ?_
    rintro e w1 ⟨A1, n1, c1, rfl, hi1, hb1⟩
    have hn1 : n1 = n + 1 := by rw [← hi1.1]; unfold lkAll; rw [lkTo_length, Hn.out]
    subst hn1
    obtain ⟨b, off, rfl, hbl, hcell⟩ := hi1.get (k := 0) (by omega)
    clear hcell Hcal
    have hx1 := hx.below hb1
    go_wp2_with fail
    go_loopw [8, 9] (fun o i wr => ∃ (k : Nat) (A3 : Option Addr) (c3 : Nat), k ≤ wl q bs ∧ i = .int .i64 (itR q bs k : Int) ∧ o = .slice A3 k c3 ∧ Own encB wr w1.heap.size 5 A3 k c3 (backTo q bs k) ∧ Below w1.heap.size w1 wr) (fun _ i _ => wl q bs + 1 - itIx q bs (intOf i).toNat)
    case atStart => exact ⟨0, none, 0, Nat.zero_le _, rfl, rfl, Own.nil _ _ _ _, Below.refl _ _⟩
    case round =>
      obtain ⟨k, A3, c3, hk, rfl, rfl, ho3, hb3⟩ := hrel
      have hw := wl_le hq'.out
      rw [Hn.out] at hw
      by_cases hlt : k < wl q bs
      · have hne := wl_ne hlt
        have hr : itR q bs k ≤ n := by rw [← Hn.out]; exact itR_le hq'.out k
        have c1 := (hi1.below hb3).cell (k := itR q bs k) (by omega)
        have e1 : gi (lkAll q bs) (itR q bs k) = (itR q bs (k + 1) : Int) := by rw [gi_lkAll hq'.out (by rw [Hn.out]; exact hr)]; rfl
        rw [e1] at c1
        clear e1
        have HB := Lib.hid (byte_any A n c q (itR q bs k) bs wr (hx1.below hb3) h1 hq hr hne)
        have HI := Lib.hid (And.intro (itIx_at hq'.out (Nat.le_of_lt hlt)) (itIx_at hq'.out hlt))
        have hnext := Lib.hid (backTo_next q bs k)
        have hbv : Hid (encB (by8 q bs (itR q bs k)) = .int .u8 (byteR bs q (itR q bs k))) := by show _ = _; rw [byteR_eq]; rfl
        have m1 : Hid (k + 1 ≤ maxLen ∧ (k + 1) * 1 ≤ 140737488355328) := ⟨by simp [maxLen]; omega, by omega⟩
        have hB3 := hb3.size
        obtain ⟨y, hy⟩ : ∃ y, y = by8 q bs (itR q bs k) := ⟨_, rfl⟩
        rw [← hy] at hnext hbv
        clear hy
        obtain ⟨r', hr'⟩ : ∃ r', r' = itR q bs (k + 1) := ⟨_, rfl⟩
        have Hr' := Lib.hid hr'
        obtain ⟨r, hr0⟩ : ∃ r, r = itR q bs k := ⟨_, rfl⟩
        rw [← hr'] at c1 HI
        rw [← hr0] at c1 hne hr HB HI hbv ⊢
        clear hr' hr0
        obtain ⟨bv, hbv'⟩ : ∃ bv, bv = byteR bs q r := ⟨_, rfl⟩
        rw [← hbv'] at HB hbv
        clear hbv'
        have d1 : ((r : Int) != (q : Int)) = true := by simp; omega
        have d1' : (r != q) = true := by simp; omega
        clear hne
        have c1' : ∀ W, Below wr.heap.size wr W → W.cell? ⟨b, off + r, none⟩ = some (.int .i64 (r' : Int)) := fun W hb => ((hi1.below hb3).below hb).cell (k := r) (by omega) |>.trans (by
          have := (hi1.below hb3).cell (k := r) (by omega)
          rw [c1] at this
          exact this.symm)
        go_wp2_with fail
        refine HB.out.mono ?_
        rintro e w5 ⟨rfl, hw5⟩
        obtain rfl : wr = w5 := hw5.symm
        go_wp2_with (at_builtin; refine wpList_pushv (enc := encB) rfl (.tmp 28) (.tmp 33) rfl uB infoB encB_one rfl rfl ho3 hB3 y _ hbv.out rfl m1.out.1 m1.out.2 ?_; intro A7 c7 W7 ho7 hb7; have c7' := (hi1.below (hb3.trans hb7)).cell (k := r) (by omega); have c8 := (hi1.below hb3).cell (k := r) (by omega); rw [c1] at c8; rw [← c8] at c7'; clear c8)
        go_roundw
        case rel => exact ⟨k + 1, A7, c7, hlt, by rw [Hr'.out], rfl, by rw [hnext.out]; exact ho7, hb3.trans hb7⟩
        case measure => simp only [intOf, Int.toNat_natCast]; rw [HI.out.1, HI.out.2]; omega
      · obtain rfl : k = wl q bs := by omega
        rw [wl_at hq'.out]
        have hown' : Own encB wr w1.heap.size 5 A3 (wl q bs) c3 (backL q bs) := ho3
        by_cases hwn : wl q bs < n
        · have hR2 : Hid (invL q bs = [] ∧ invE q bs = 3) := by show _ ∧ _; unfold invL invE; rw [Hn.out, if_pos hwn, if_pos hwn]; exact ⟨rfl, rfl⟩
          obtain ⟨m, hm⟩ : ∃ m, m = wl q bs := ⟨_, rfl⟩
          rw [← hm] at hwn ⊢
          clear hm
          have d1 : ((m : Int) != (n : Int)) = true := by simp; omega
          have d1' : (m != n) = true := by simp; omega
          go_wp2_with fail
          go_ret2
          rw [hR.out.1, hR.out.2, hR2.out.1, hR2.out.2]
          exact RetBytes.err rfl (hb1.trans (hb3.mono hb1.size))
        · have hR2 : Hid (invL q bs = (backL q bs).reverse ∧ invE q bs = 0) := by show _ ∧ _; unfold invL invE; rw [Hn.out, if_neg hwn, if_neg hwn]; exact ⟨rfl, rfl⟩
          have hbk := hown'.bytesBBwt
          have hlen : Hid ((backL q bs).length = n) := by show _ = _; rw [hown'.length]; omega
          obtain ⟨m, hm⟩ : ∃ m, m = wl q bs := ⟨_, rfl⟩
          rw [← hm] at hwn hw hbk ⊢
          obtain rfl : m = n := by omega
          clear hm hwn ho3 hown'
          obtain ⟨bl, hbl'⟩ : ∃ bl, bl = backL q bs := ⟨_, rfl⟩
          rw [← hbl'] at hbk hR2 hlen
          clear hbl'
          obtain ⟨W0, rfl⟩ : ∃ W0, W0 = wr := ⟨_, rfl⟩
          go_wp2_with fail
          go_loopw [10, 11] (fun o i wr => ∃ (j s : Nat) (A4 : Option Addr) (c4 : Nat), j + s = m ∧ i = .int .i64 ((s : Int) - 1) ∧ o = .slice A4 j c4 ∧ Own encB wr W0.heap.size 5 A4 j c4 (bl.drop s).reverse ∧ Below W0.heap.size W0 wr) (fun _ i _ => (intOf i + 1).toNat)
          case atStart => exact ⟨0, m, none, 0, by omega, rfl, rfl, by rw [List.drop_of_length_le (by rw [hlen.out]; exact Nat.le_refl _)]; exact Own.nil _ _ _ _, Below.refl _ _⟩
          case round =>
            obtain ⟨j, s, A4, c4, hjs, rfl, rfl, ho4, hb4⟩ := hrel
            rcases Nat.eq_zero_or_pos s with h0 | h0
            · have he : Hid (bl.drop s = bl) := by show _ = _; rw [h0]; rfl
              have es : (s : Int) - 1 = -1 := by omega
              rw [es]
              clear h0 es
              go_wp2_with fail
              go_ret2
              rw [hR.out.1, hR.out.2, hR2.out.1, hR2.out.2]
              rw [he.out] at ho4
              exact RetBytes.mk rfl ho4.bytesBBwt (hb1.trans ((hb3.mono hb1.size).trans (hb4.mono (Nat.le_trans hb1.size hb3.size))))
            · obtain ⟨t, rfl⟩ : ∃ t, s = t + 1 := ⟨s - 1, by omega⟩
              have ec : ((t + 1 : Nat) : Int) - 1 = (t : Int) := by omega
              rw [ec]
              clear ec h0
              obtain ⟨b5, off5, rfl, hb5, hc5⟩ := (hbk.below hb4).get (k := t) (by omega)
              have c5 := hc5 t (by omega)
              clear hc5
              have hstep := Lib.hid (rev_step bl (j := t) (by rw [hlen.out]; omega))
              have hv : Hid (encB (bl.getD t 0) = .int .u8 (gb bl t)) := rfl
              have m1 : Hid (j + 1 ≤ maxLen ∧ (j + 1) * 1 ≤ 140737488355328) := ⟨by simp [maxLen]; omega, by omega⟩
              have hB4 := hb4.size
              have d2 : decide ((0 : Int) ≤ (t : Int)) = true := by simp
              have htm : t < m := by omega
              go_wp2_with (at_builtin; refine wpList_pushv (enc := encB) rfl (.tmp 47) (.tmp 52) rfl uB infoB encB_one rfl rfl ho4 hB4 (bl.getD t 0) _ hv.out rfl m1.out.1 m1.out.2 ?_; intro A7 c7 W7 ho7 hb7)
              go_roundw
              case rel => exact ⟨j + 1, t, A7, c7, by omega, by go_num, rfl, by rw [hstep.out]; exact ho7, hb4.trans hb7⟩
              case measure => simp [intOf]
  · have hR : Hid (invRes bs p = [] ∧ invErr bs p = limE n p) := by show _ ∧ _; unfold invRes invErr; rw [Hn.out, if_neg h, if_neg h]; exact ⟨rfl, rfl⟩
    have Hcal := Lib.hid hcal; clear hcal
    obtain ⟨x, hx'⟩ : ∃ x, x = limE n p := ⟨_, rfl⟩
    rw [← hx'] at Hcal h hR
    clear hx'
    have d0 : (x != 0) = true := by simp; exact h
    go_enter Tryz.func116, Tryz.ntmps116
    go_wp2_with fail
    refine Hcal.out.mono ?_
    rintro e w1 ⟨A1, n1, c1, rfl, -, hb1⟩
    go_wp2_with fail
    go_ret2
    rw [hR.out.1, hR.out.2]
    exact RetBytes.err rfl hb1
theorem unpackR_any (A : Option Addr) (n c : Nat) (bs : List UInt8) (w : World) (hx : Bytes w A n c bs) (hn : n ≤ 1000000000) :
    Calls Tryz.prog 57 #[.slice A n c] w (RetBytes w (unpackRes bs).1 (unpackRes bs).2) := by
  have Hn := Lib.hid hx.1
  by_cases h1 : 65536 < n
  · have hR : Hid (unpackRes bs = ([], 5)) := by show _ = _; unfold unpackRes; rw [Hn.out, if_pos h1]
    have d1 : decide ((65536 : Int) < (n : Int)) = true := by simp; omega
    have d2 : decide (65536 < n) = true := by simp; omega
    go_enter Tryz.func57, Tryz.ntmps57
    go_wp2_with fail
    go_ret2
    rw [hR.out]
    exact RetBytes.err rfl (Below.refl _ _)
  · have d1 : decide ((65536 : Int) < (n : Int)) = false := by simp; omega
    have d2 : decide (65536 < n) = false := by simp; omega
    have hU : unpackRes bs = if (intL bs).2.2 ≠ 0 then ([], ((intL bs).2.2 : Int)) else (invRes (intL bs).2.1 ((intL bs).1 : Int), invErr (intL bs).2.1 ((intL bs).1 : Int)) := by unfold unpackRes; rw [Hn.out, if_neg h1]
    have hcal := intR_any A n c bs w hx (by omega)
    have hil := intL_len bs
    rw [Hn.out] at hil
    obtain ⟨x, hxe⟩ : ∃ x, x = intL bs := ⟨_, rfl⟩
    rw [← hxe] at hcal hU hil
    clear hxe
    obtain ⟨v, rest, er⟩ := x
    simp only at hU hil
    have Hcal := Lib.hid hcal; clear hcal
    by_cases he : er = 0
    · subst he
      rw [if_neg (by simp)] at hU
      have HU := Lib.hid hU; clear hU
      go_enter Tryz.func57, Tryz.ntmps57
      go_wp2_with fail
      refine Hcal.out.mono ?_
      rintro e w1 ⟨A1, n1, c1, rfl, ho1, hb1⟩
      have hl1 := ho1.length
      simp only at hl1
      have Hc2 := Lib.hid (inverseR_any A1 n1 c1 (v : Int) rest w1 ho1.bytesBBwt (by omega))
      clear Hcal
      go_wp2_with fail
      refine Hc2.out.mono ?_
      rintro e w2 ⟨A2, n2, c2, rfl, hx2, hb2⟩
      go_wp2_with fail
      go_ret2
      rw [HU.out]
      exact RetBytes.mk rfl hx2 (hb1.trans (hb2.mono hb1.size))
    · rw [if_pos he] at hU
      have HU := Lib.hid hU; clear hU
      have d3 : ((er : Int) != 0) = true := by simp; exact he
      clear he
      go_enter Tryz.func57, Tryz.ntmps57
      go_wp2_with fail
      refine Hcal.out.mono ?_
      rintro e w1 ⟨A1, n1, c1, rfl, ho1, hb1⟩
      go_wp2_with fail
      go_ret2
      rw [HU.out]
      exact RetBytes.err rfl hb1

end Go.Proofs.YtohadkmaemmfgaaGreatDoor.Bwt
namespace Go.Proofs.YtohadkmaemmfgaaGreatDoor.Bwt
open Go.RowKit Go.Proofs
set_option linter.unusedVariables false
section
variable {p : Nat} {bs : List UInt8}
end
section
variable {b : List UInt8}
end
section
variable {p : Nat} {bs : List UInt8}
end
end Go.Proofs.YtohadkmaemmfgaaGreatDoor.Bwt
namespace Go.Proofs.YtohadkmaemmfgaaGreatDoor.Bwt
open Go.RowKit Go.Proofs Go.Sort
set_option linter.unusedVariables false
set_option linter.unusedSimpArgs false
theorem invRes_length (bs : List UInt8) (p : Int) : (invRes bs p).length ≤ bs.length := by
  unfold invRes
  split
  · rename_i h
    have hp : p.toNat ≤ bs.length := by
      unfold limE at h
      split at h
      · cases h
      · split at h
        · cases h
        · omega
    unfold invL
    split
    · exact Nat.zero_le _
    · unfold backL
      rw [List.length_reverse, backTo_length]
      exact wl_le hp
  · exact Nat.zero_le _
theorem unpackRes_length (bs : List UInt8) : (unpackRes bs).1.length ≤ 65536 := by
  have hl := intL_len bs
  unfold unpackRes
  split
  · exact Nat.zero_le _
  · split
    · exact Nat.zero_le _
    · exact Nat.le_trans (invRes_length _ _) (by omega)
end Go.Proofs.YtohadkmaemmfgaaGreatDoor.Bwt
