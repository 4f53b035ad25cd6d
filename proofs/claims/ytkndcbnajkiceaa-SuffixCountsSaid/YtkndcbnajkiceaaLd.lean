/- The walk of the law SuffixCounts. -/
import Derived.Test.YtkndcbnajkiceaaLa
namespace Go.Proofs.Ytkndcbnajkiceaa
open Go.RowKit Go.Proofs
set_option linter.unusedVariables false

set_option maxHeartbeats 400000 in
theorem equalB_any (A B : Option Addr) (c d n m : Nat) (xs ys : List UInt8) (w : World) (hx : Bytes w A n c xs) (hy : Bytes w B m d ys) :
    Calls Try.prog 41 #[.slice A n c, .slice B m d] w fun e w' => e = .returned (.bool (decide (xs = ys))) ∧ w' = w := by
  have r2 := hx.str 22 5 9 uB u8 uS
  have r3 := hy.str 22 5 9 uB u8 uS
  have hfin : Hid (((strB xs).toList == (strB ys).toList) = decide (xs = ys)) := strB_beq _ _
  go_enter Try.func41, Try.ntmps41
  go_wp2_with fail
  go_ret
  exact ⟨ret_bool hfin.out, rfl⟩

set_option maxHeartbeats 400000 in
theorem hasPrefix_any (A B : Option Addr) (c d n m : Nat) (xs ys : List UInt8) (w : World) (hx : Bytes w A n c xs) (hy : Bytes w B m d ys) (hn : n ≤ 1000000000) (hm : m ≤ 1000000000) :
    Calls Try.prog 23 #[.slice A n c, .slice B m d] w fun e w' => e = .returned (.bool (begins ys xs)) ∧ w' = w := by
  have hl := hy.1
  by_cases h : m ≤ n
  · have h' : decide ((m : Int) ≤ (n : Int)) = true := by simp; omega
    obtain ⟨r1, hx1⟩ := hx.cut_h tB eB sB (m : Int) (by omega) (by omega)
    have hfin : Hid (decide (xs.take m = ys) = begins ys xs) := by show _ = _; unfold begins; rw [hl]
    have hcal := equalB_any _ _ _ _ _ _ _ _ w hx1 hy
    rw [Int.toNat_natCast] at hcal
    have Hcal := Lib.hid hcal; clear hcal hl
    go_enter Try.func23, Try.ntmps23
    go_wp2_with fail
    refine Hcal.out.mono ?_
    rintro e w1 ⟨rfl, hw1⟩
    obtain rfl : w = w1 := hw1.symm
    go_wp2_with fail
    go_ret
    exact ⟨ret_bool hfin.out, rfl⟩
  · have h' : decide ((m : Int) ≤ (n : Int)) = false := by simp; omega
    have hfin : Hid (begins ys xs = false) := by
      apply decide_eq_false
      intro h
      have h1 := congrArg List.length h
      have h2 := hx.1
      simp at h1
      omega
    clear hl
    go_enter Try.func23, Try.ntmps23
    go_wp2_with fail
    go_ret
    exact ⟨ret_bool hfin.out.symm, rfl⟩

/-- how many of the places below k begin with the pattern. -/
def cntB (bs pat : List UInt8) : Nat → Nat
  | 0 => 0
  | k + 1 => cntB bs pat k + if begins pat (bs.drop k) then 1 else 0
theorem cntB_le (bs pat : List UInt8) : ∀ k, cntB bs pat k ≤ k
  | 0 => Nat.le_refl _
  | k + 1 => by rw [cntB]; have := cntB_le bs pat k; split <;> omega
theorem cntB_eq (bs pat : List UInt8) : ∀ k, cntB bs pat k = (List.range k).countP (fun p => begins pat (bs.drop p))
  | 0 => rfl
  | k + 1 => by rw [cntB, List.range_succ, List.countP_append, cntB_eq bs pat k]; simp [List.countP_cons]
theorem count_mid {f : Int → Bool} {zs : List Int} {lo hi : Nat} (h1 : lo ≤ hi) (h2 : hi ≤ zs.length) (h : ∀ i, i < zs.length → f (gi zs i) = decide (lo ≤ i ∧ i < hi)) : zs.countP f = hi - lo := by
  have e : zs = zs.take lo ++ ((zs.drop lo).take (hi - lo) ++ zs.drop hi) := by
    have e2 : zs.drop hi = (zs.drop lo).drop (hi - lo) := by rw [List.drop_drop]; congr 1; omega
    rw [e2, List.take_append_drop, List.take_append_drop]
  rw [e, List.countP_append, List.countP_append]
  have c1 : (zs.take lo).countP f = 0 := by
    rw [List.countP_eq_zero]
    intro z hz
    obtain ⟨i, hi', rfl⟩ := List.mem_iff_getElem.1 hz
    have hil : i < lo := by simp at hi'; omega
    have := h i (by simp at hi'; omega)
    rw [gi_get (by simp at hi'; omega)] at this
    rw [List.getElem_take, this]
    simp; omega
  have c2 : ((zs.drop lo).take (hi - lo)).countP f = hi - lo := by
    have hl : ((zs.drop lo).take (hi - lo)).length = hi - lo := by simp; omega
    have : ((zs.drop lo).take (hi - lo)).countP f = ((zs.drop lo).take (hi - lo)).length := by
      rw [List.countP_eq_length]
      intro z hz
      obtain ⟨i, hi', rfl⟩ := List.mem_iff_getElem.1 hz
      rw [hl] at hi'
      have := h (lo + i) (by omega)
      rw [gi_get (by omega)] at this
      rw [List.getElem_take, List.getElem_drop, this]
      simp; omega
    omega
  have c3 : (zs.drop hi).countP f = 0 := by
    rw [List.countP_eq_zero]
    intro z hz
    obtain ⟨i, hi', rfl⟩ := List.mem_iff_getElem.1 hz
    rw [List.length_drop] at hi'
    have := h (hi + i) (by omega)
    rw [gi_get (by omega)] at this
    rw [List.getElem_drop, this]
    simp
  omega
theorem perm_of_mem {l l' : List Int} (h1 : l.Nodup) (h2 : l'.Nodup) (h : ∀ a, a ∈ l ↔ a ∈ l') : l.Perm l' := by
  rw [List.perm_iff_count]
  intro a
  rw [h1.count, h2.count]
  simp [h a]
theorem rows_count {bs pat : List UInt8} {zs : List Int} (hl : zs.length = bs.length + 1) (hp : permErr zs = 0) (hs : zs.Pairwise (before bs)) :
    lowOf bs zs pat ≤ highOf bs zs pat ∧ highOf bs zs pat ≤ zs.length ∧ cntB bs pat (bs.length + 1) = highOf bs zs pat - lowOf bs zs pat ∧ (∀ i, lowOf bs zs pat ≤ i → i < highOf bs zs pat → begins pat (sfx bs (gi zs i)) = true) := by
  have hlo := low_spec (pat := pat) hs
  have hhi := high_spec (pat := pat) hs
  have hle : lowOf bs zs pat ≤ highOf bs zs pat := by unfold highOf; omega
  have key : ∀ i, i < zs.length → begins pat (sfx bs (gi zs i)) = decide (lowOf bs zs pat ≤ i ∧ i < highOf bs zs pat) := fun i hi => by
    have hb : begins pat (sfx bs (gi zs i)) = decide (cmpL (beg bs zs pat.length i) pat = 0) := by
      unfold begins beg
      by_cases h : (sfx bs (gi zs i)).take pat.length = pat
      · rw [decide_eq_true h, decide_eq_true ((cmpL_zero _ _).2 h)]
      · rw [decide_eq_false h, decide_eq_false (fun e => h ((cmpL_zero _ _).1 e))]
    rw [hb]
    rcases Nat.lt_or_ge i (lowOf bs zs pat) with h1 | h1
    · have := hlo.1 i h1
      simp at this
      rw [decide_eq_false (by omega), decide_eq_false (by omega)]
    · have h2 := hlo.2 i h1 hi
      simp at h2
      rcases Nat.lt_or_ge i (highOf bs zs pat) with h3 | h3
      · have h4 := hhi.2.1 i h3
        simp at h4
        rw [decide_eq_true (by omega), decide_eq_true (by omega)]
      · have h4 := hhi.2.2 i h3 hi
        simp at h4
        rw [decide_eq_false (by omega), decide_eq_false (by omega)]
  refine ⟨hle, hhi.1, ?_, fun i h1 h2 => by rw [key i (by have := hhi.1; omega)]; simp; omega⟩
  have hc := count_mid (f := fun z => begins pat (sfx bs z)) hle hhi.1 key
  rw [← hc, cntB_eq]
  have hperm : zs.Perm ((List.range (bs.length + 1)).map fun p : Nat => (p : Int)) := by
    obtain ⟨h1, h2⟩ := (permErr_zero_iff zs).1 hp
    refine perm_of_mem h2 ?_ (fun a => ?_)
    · rw [List.nodup_iff_pairwise_ne, List.pairwise_map]
      exact (List.nodup_iff_pairwise_ne.1 List.nodup_range).imp fun h e => h (by omega)
    · constructor
      · intro ha
        have := h1 a ha
        exact List.mem_map.2 ⟨a.toNat, by simp; omega, by omega⟩
      · intro ha
        obtain ⟨p, hp', rfl⟩ := List.mem_map.1 ha
        exact perm_all_mem hp (by simp at hp'; omega)
  rw [hperm.countP_eq, List.countP_map]
  rfl

set_option maxRecDepth 100000 in
set_option maxHeartbeats 2000000 in
theorem suffixCounts_any (A C : Option Addr) (c n f l : Nat) (bs pat : List UInt8) (w : World) (hx : Bytes w A n c bs) (hq : Bytes w C l f pat) :
    Calls Try.prog 9 #[.slice A n c, .slice C l f] w fun e w' => e = .returned (.bool true) ∧ Below w.heap.size w w' := by
  by_cases hn : 300 < n
  · have d0 : decide ((300 : Int) < (n : Int)) = true := by simp; omega
    go_enter Try.func9, Try.ntmps9
    go_wp2_with fail
    refine (awake_any _).mono ?_
    rintro e w1 ⟨rfl, hb1⟩
    go_wp2_with fail
    go_ret
    exact ⟨rfl, hb1⟩
  · have d0 : decide ((300 : Int) < (n : Int)) = false := by simp; omega
    by_cases hl : 300 < l
    · have d1 : decide ((300 : Int) < (l : Int)) = true := by simp; omega
      go_enter Try.func9, Try.ntmps9
      go_wp2_with fail
      refine (awake_any _).mono ?_
      rintro e w1 ⟨rfl, hb1⟩
      go_wp2_with fail
      go_ret
      exact ⟨rfl, hb1⟩
    · have d1 : decide ((300 : Int) < (l : Int)) = false := by simp; omega
      have Hx := Lib.hid hx.1
      have h1 := sort_any A c n bs w hx (by omega)
      have H1 := Lib.hid h1; clear h1
      have hce := checkErr_sortL bs (by have := Hx.out; omega)
      have hfe : findErr bs (sortL bs) pat = 0 := by unfold findErr; rw [if_neg (by rw [hce]; simp), if_neg (by have := hq.1; omega)]
      have hfl : findLow bs (sortL bs) pat = (lowOf bs (sortL bs) pat : Nat) := by unfold findLow; rw [if_pos hfe]
      have hfh : findHigh bs (sortL bs) pat = (highOf bs (sortL bs) pat : Nat) := by unfold findHigh; rw [if_pos hfe]
      have hcount := rows_count (pat := pat) (sortL_length bs) (sortL_perm bs) (sortL_sorted bs)
      rw [sortL_length, Hx.out] at hcount
      have hrange : ∀ i, i < n + 1 → 0 ≤ gi (sortL bs) i ∧ gi (sortL bs) i ≤ n := fun i hi => by
        have := mem_sortL.1 (gi_mem (zs := sortL bs) (k := i) (by rw [sortL_length, Hx.out]; exact hi))
        rw [Hx.out] at this
        exact this
      have HR := Lib.hid hrange; clear hrange
      have Hfe := Lib.hid hfe; clear hfe hce
      have Hfl := Lib.hid hfl; clear hfl
      have Hfh := Lib.hid hfh; clear hfh
      go_enter Try.func9, Try.ntmps9
      go_wp2_with fail
      refine H1.out.mono ?_
      rintro e w1 ⟨A1, n1, c1, rfl, hs1, hb1⟩
      have hl1 := hs1.1
      rw [sortL_length, Hx.out] at hl1
      subst hl1
      have hx1 := hx.below hb1
      have hq1 := hq.below hb1
      have h2 := find_any _ _ _ _ _ _ _ _ _ _ _ _ _ hx1 hs1 hq1 (by omega) (by omega) (by omega)
      rw [Hfe.out, Hfl.out, Hfh.out] at h2
      have H2 := Lib.hid h2; clear h2
      obtain ⟨lo, hlo⟩ : ∃ lo, lo = lowOf bs (sortL bs) pat := ⟨_, rfl⟩
      obtain ⟨hi, hhi⟩ : ∃ hi, hi = highOf bs (sortL bs) pat := ⟨_, rfl⟩
      rw [← hlo, ← hhi] at hcount H2
      obtain ⟨q1, q2, q3, q4⟩ := hcount
      have Q3 := Lib.hid q3; clear q3
      have Q4 := Lib.hid q4; clear q4
      clear hlo hhi Hfe Hfl Hfh H1
      go_wp2_with fail
      refine H2.out.mono ?_
      rintro e w2 ⟨rfl, hb2⟩
      have hx2 := hx1.below hb2
      have hq2 := hq1.below hb2
      have hs2 := hs1.below hb2
      have hb2' := hb1.trans (hb2.mono hb1.size)
      clear H2 hx1 hq1 hs1 hb1 hb2
      have d2 : decide ((lo : Int) < 0) = false := by simp
      have d3 : decide ((hi : Int) < (lo : Int)) = false := by simp; omega
      have d3' : decide (hi < lo) = false := by simp; omega
      have d4 : decide ((n : Int) + 1 < (hi : Int)) = false := by simp; omega
      go_wp2_with fail
      go_loop [10, 11] (fun a i => ∃ p : Nat, p ≤ n + 1 ∧ i = .int .i64 (p : Int) ∧ a = .int .i64 ((cntB bs pat p : Nat) : Int)) (fun _ i => n + 1 - (intOf i).toNat)
      case atStart => exact ⟨0, by omega, rfl, rfl⟩
      case round =>
        obtain ⟨p, hp, rfl, rfl⟩ := hrel
        have hcl := cntB_le bs pat p
        by_cases hlt : p < n + 1
        · have d5 : decide ((p : Int) ≤ (n : Int)) = true := by simp; omega
          obtain ⟨A4, r4, v4⟩ := hx2.cut_l tB eB sB (p : Int) (by omega) (by omega)
          have hcal := hasPrefix_any _ _ _ _ _ _ _ _ _ v4 hq2 (by omega) (by omega)
          rw [Int.toNat_natCast] at hcal
          have Hcal := Lib.hid hcal; clear hcal
          cases hb : begins pat (bs.drop p) with
          | true =>
            have hst : Hid (cntB bs pat (p + 1) = cntB bs pat p + 1) := by show _ = _; rw [cntB, hb]; rfl
            have Hb := Lib.hid hb; clear hb
            go_wp2_with fail
            refine Hcal.out.mono ?_
            rintro e w3 ⟨rfl, hw3⟩
            obtain rfl : w2 = w3 := hw3.symm
            rw [Hb.out]
            go_wp2_with fail
            go_round
            case rel => exact ⟨p + 1, by omega, by go_num, by rw [hst.out]; go_num⟩
            case measure => simp [intOf]; omega
          | false =>
            have hst : Hid (cntB bs pat (p + 1) = cntB bs pat p) := by show _ = _; rw [cntB, hb]; rfl
            have Hb := Lib.hid hb; clear hb
            go_wp2_with fail
            refine Hcal.out.mono ?_
            rintro e w3 ⟨rfl, hw3⟩
            obtain rfl : w2 = w3 := hw3.symm
            rw [Hb.out]
            go_wp2_with fail
            go_round
            case rel => exact ⟨p + 1, by omega, by go_num, by rw [hst.out]⟩
            case measure => simp [intOf]; omega
        · have d5 : decide ((p : Int) ≤ (n : Int)) = false := by simp; omega
          have Q5 : Hid (cntB bs pat p = hi - lo) := by rw [show p = n + 1 by omega]; exact Q3
          go_wp2_with fail
          go_loop [12] (fun i => ∃ k : Nat, lo ≤ k ∧ k ≤ hi ∧ i = .int .i64 (k : Int)) (fun i => hi - (intOf i).toNat)
          case atStart => exact ⟨lo, by omega, by omega, rfl⟩
          case round =>
            obtain ⟨k, hk1, hk2, rfl⟩ := hrel
            by_cases hkk : k < hi
            · obtain ⟨a0, a1⟩ := HR.out k (by omega)
              have hbk := Q4.out k hk1 hkk
              obtain ⟨b, off, rfl, -, hcell⟩ := hs2.get (k := k) (by omega)
              have c3 := hcell k (by omega)
              clear hcell
              obtain ⟨A4, r4, v4⟩ := hx2.cut_l tB eB sB (gi (sortL bs) k) a0 a1
              have hcal := hasPrefix_any _ _ _ _ _ _ _ _ _ v4 hq2 (by omega) (by omega)
              rw [show begins pat (bs.drop (gi (sortL bs) k).toNat) = true from hbk] at hcal
              have Hcal := Lib.hid hcal; clear hcal hbk
              have d6 : decide (gi (sortL bs) k < 0) = false := by simp; omega
              have d7 : decide ((n : Int) < gi (sortL bs) k) = false := by simp; omega
              go_wp2_with fail
              refine Hcal.out.mono ?_
              rintro e w3 ⟨rfl, hw3⟩
              obtain rfl : w2 = w3 := hw3.symm
              go_wp2_with fail
              go_round
              case rel => exact ⟨k + 1, by omega, by omega, by go_num⟩
              case measure => simp [intOf]; omega
            · have d8 : ((hi : Int) - (lo : Int) == ((cntB bs pat p : Nat) : Int)) = true := by rw [Q5.out]; simp; omega
              go_wp2_with fail
              refine (awake_any _).mono ?_
              rintro e w5 ⟨rfl, hb5⟩
              go_wp2_with fail
              go_ret
              exact ⟨rfl, hb2'.trans (hb5.mono hb2'.size)⟩
end Go.Proofs.Ytkndcbnajkiceaa
