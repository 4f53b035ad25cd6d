/- Ca Cb Cc Du Ek. -/
import Derived.Test.YtohadkmaemmfgaaGreatDoorRA33
import Derived.Test.YtohadkmaemmfgaaGreatDoorRA09
import Derived.Test.YtohadkmaemmfgaaGreatDoorRA16
import Derived.Test.YtohadkmaemmfgaaGreatDoorRA06
import Derived.WalkSpells
import Derived.Lib.ItoaNum
import Derived.Laws.BitsLemmas
import Derived.IntWalk
set_option maxRecDepth 100000
set_option maxHeartbeats 4000000
namespace Go.Proofs.YtohadkmaemmfgaaGreatDoor.Bwt
open Go.RowKit Go.Proofs Go.Sort
set_option linter.unusedVariables false
def RetOwn (B : Nat) (w : World) (xs : List UInt8) (e : Ending) (w' : World) : Prop := ∃ A n c, e = .returned (.slice A n c) ∧ Own encB w' B 5 A n c xs ∧ Below B w w'
theorem RetOwn.mk {B : Nat} {w w' : World} {xs : List UInt8} {A : Option Addr} {n c : Nat} (h : Own encB w' B 5 A n c xs) (hb : Below B w w') : RetOwn B w xs (.returned (.slice A n c)) w' := ⟨A, n, c, rfl, h, hb⟩
theorem number_any (n : Nat) (w : World) (hn : n ≤ 9007199254740991) : Calls Tryz.prog 213 #[.int .i64 (n : Int)] w fun e w' => e = .returned (.int .i64 (n : Int)) ∧ w' = w := by
  have d1 : decide ((n : Int) < 0) = false := by simp
  have d2 : decide ((9007199254740991 : Int) < (n : Int)) = false := by simp; omega
  go_enter Tryz.func213, Tryz.ntmps213
  go_wp2
  go_ret
  exact ⟨rfl, rfl⟩
def furL (n : Nat) : Nat := (Lib.bitLen n - 1) / 7
theorem further_any (n : Nat) (w : World) (hn : n < 4611686018427387904) : Calls Tryz.prog 150 #[.int .i64 (n : Int)] w fun e w' => e = .returned (.int .i64 ((furL n : Nat) : Int)) ∧ w' = w := by
  apply Dic.further_any <;> assumption
theorem furL_small {n : Nat} (h : n ≤ 127) : furL n = 0 := by
  have : Lib.bitLen n ≤ 7 := Lib.bitLen_le n 7 (by omega) (by omega)
  unfold furL; omega
theorem or_zero_u8 : ∀ k : Fin 128, bits BinOp.or IntKind.u8 0 (k.val : Int) = (k.val : Int) := by decide +kernel
theorem put_small (B : Nat) (A : Option Addr) (m c : Nat) (xs : List UInt8) (n : Nat) (w : World) (hown : Own encB w B 5 A m c xs) (hB : B ≤ w.heap.size) (hm : m ≤ 1000000) (hn : n ≤ 127) :
    Calls Tryz.prog 146 #[.slice A m c, .int .i64 (n : Int)] w (RetOwn B w (xs ++ [UInt8.ofNat n])) := by
  apply Dic.put_small <;> assumption
theorem own_empty (w : World) (e : TypeId) : Own encB (w.alloc (.cells #[] e)) w.heap.size e (some ⟨w.heap.size, 0, none⟩) 0 0 [] :=
  ⟨rfl, .inr ⟨w.heap.size, 0, #[], rfl, Nat.le_refl _, World.alloc_heap_new w _, Nat.le_refl _, by simp [maxLen], rfl, rfl⟩⟩
theorem clone_any (A : Option Addr) (m c : Nat) (xs : List UInt8) (w : World) (hx : Bytes w A m c xs) (hm : m ≤ 1000000) :
    Calls Tryz.prog 17 #[.slice A m c] w (RetOwn w.heap.size w xs) := by
  apply Go.Proofs.YtohadkmaemmfgaaGreatDoor.clone_any <;> assumption
theorem putInt_small (A : Option Addr) (m c : Nat) (xs : List UInt8) (n : Nat) (w : World) (hx : Bytes w A m c xs) (hm : m ≤ 900000) (hn : n ≤ 127) :
    Calls Tryz.prog 80 #[.slice A m c, .int .i64 (n : Int)] w (RetOwn w.heap.size w (xs ++ [UInt8.ofNat n])) := by
  have hcal := Lib.hid (clone_any A m c xs w hx (by omega))
  have Hm := Lib.hid hx.1
  go_enter Tryz.func80, Tryz.ntmps80
  go_wp2_with fail
  refine hcal.out.mono ?_
  rintro e w1 ⟨A1, n1, c1, rfl, ho1, hb1⟩
  have hn1 : n1 ≤ 900000 := by rw [← ho1.length, Hm.out]; exact hm
  have hcal2 := Lib.hid (put_small w.heap.size A1 n1 c1 xs n w1 ho1 hb1.size (by omega) hn)
  go_wp2_with fail
  refine hcal2.out.mono ?_
  rintro e w2 ⟨A2, n2, c2, rfl, ho2, hb2⟩
  go_wp2_with fail
  go_ret
  exact RetOwn.mk ho2 (hb1.trans hb2)
def pw (k : Nat) : Nat := 2 ^ k
theorem pw_succ (k : Nat) : pw (k + 1) = 2 * pw k := by unfold pw; rw [Nat.pow_succ]; omega
theorem pw_mono {a b : Nat} (h : a ≤ b) : pw a ≤ pw b := Nat.pow_le_pow_right (by omega) h
theorem power_any (n : Nat) (w : World) (hn : n ≤ 62) : Calls Tryz.prog 169 #[.int .i64 (n : Int)] w fun e w' => e = .returned (.int .i64 ((pw n : Nat) : Int)) ∧ w' = w := by
  go_enter Tryz.func169, Tryz.ntmps169
  go_wp2
  go_loop [3, 4] (fun p i => ∃ k : Nat, k ≤ n ∧ i = .int .i64 (k : Int) ∧ p = .int .i64 ((pw k : Nat) : Int)) (fun _ i => n - (intOf i).toNat)
  case atStart => exact ⟨0, Nat.zero_le _, rfl, rfl⟩
  case round =>
    obtain ⟨k, hk, rfl, rfl⟩ := hrel
    by_cases hlt : k < n
    · have hb : pw k ≤ 2305843009213693952 := Nat.le_trans (pw_mono (b := 61) (by omega)) (by decide)
      have hs := Lib.hid (pw_succ k)
      obtain ⟨p, hp⟩ : ∃ p, p = pw k := ⟨_, rfl⟩
      rw [← hp] at hb hs
      rw [← hp]
      clear hp
      have dk : decide ((k : Int) < (n : Int)) = true := by simp; omega
      have dk' : decide (k < n) = true := by simp; omega
      go_wp2
      go_round
      case rel => exact ⟨k + 1, by omega, by go_num, by rw [hs.out]; go_num⟩
      case measure => simp [intOf]; omega
    · have dk : decide ((k : Int) < (n : Int)) = false := by simp; omega
      have dk' : decide (k < n) = false := by simp; omega
      obtain rfl : n = k := by omega
      go_wp2
      go_ret
      exact ⟨rfl, rfl⟩
theorem numberR_any (n : Nat) (w : World) (hn : n ≤ 9007199254740991) : Calls Tryz.prog 179 #[.int .i64 (n : Int)] w fun e w' => e = .returned (.int .i64 (n : Int)) ∧ w' = w := by
  have d1 : decide ((n : Int) < 0) = false := by simp
  have d2 : decide ((9007199254740991 : Int) < (n : Int)) = false := by simp; omega
  go_enter Tryz.func179, Tryz.ntmps179
  go_wp2
  go_ret
  exact ⟨rfl, rfl⟩
theorem bitLen_bounds {n : Nat} (h : n < 18446744073709551616) (h0 : n ≠ 0) : 1 ≤ Lib.bitLen n ∧ 2 ^ (Lib.bitLen n - 1) ≤ n ∧ n < 2 ^ Lib.bitLen n := Lib.bitLenAux_bounds 64 n (by omega) h0
theorem furL_lt {n k : Nat} (hn : n < 72057594037927936) : pw (7 * (k + 1)) ≤ n ↔ k < furL n := by
  unfold furL pw
  rcases Nat.eq_zero_or_pos n with h | h
  · subst h
    have : Lib.bitLen 0 = 0 := by decide
    rw [this]
    have := Nat.one_le_two_pow (n := 7 * (k + 1))
    simp
  · obtain ⟨h1, h2, h3⟩ := bitLen_bounds (n := n) (by omega) (by omega)
    constructor
    · intro h4
      have h5 : 2 ^ (7 * (k + 1)) < 2 ^ Lib.bitLen n := Nat.lt_of_le_of_lt h4 h3
      have := (Nat.pow_lt_pow_iff_right (by omega : 1 < 2)).1 h5
      omega
    · intro h4
      exact Nat.le_trans (Nat.pow_le_pow_right (by omega) (by omega)) h2
theorem furL_le {n : Nat} (hn : n < 72057594037927936) : furL n ≤ 7 := by
  have : Lib.bitLen n ≤ 56 := Lib.bitLen_le n 56 (by omega) (by omega)
  unfold furL; omega
theorem sizeR_any (n : Nat) (w : World) (hn : n ≤ 9007199254740991) : Calls Tryz.prog 170 #[.int .i64 (n : Int)] w fun e w' => e = .returned (.int .i64 ((furL n : Nat) + 1 : Int)) ∧ w' = w := by
  have h1 := Lib.hid (numberR_any n w hn)
  have hle := furL_le (n := n) (by omega)
  have hlt := Lib.hid (fun k => furL_lt (n := n) (k := k) (by omega))
  obtain ⟨fu, hfu⟩ : ∃ fu, fu = furL n := ⟨_, rfl⟩
  rw [← hfu] at hle hlt
  rw [← hfu]
  clear hfu
  go_enter Tryz.func170, Tryz.ntmps170
  go_wp2
  go_loop [3] (fun i => ∃ k : Nat, k ≤ fu ∧ i = .int .i64 (k : Int)) (fun i => fu - (intOf i).toNat)
  case atStart => exact ⟨0, Nat.zero_le _, rfl⟩
  case round =>
    obtain ⟨k, hk, rfl⟩ := hrel
    have h2 := power_any (7 * (k + 1)) w (by omega)
    rw [show ((7 * (k + 1) : Nat) : Int) = 7 * ((k : Int) + 1) by omega] at h2
    have H2 := Lib.hid h2; clear h2
    have hiff := hlt.out k
    obtain ⟨p, hp⟩ : ∃ p, p = pw (7 * (k + 1)) := ⟨_, rfl⟩
    rw [← hp] at H2 hiff
    clear hp
    by_cases hkf : k < fu
    · have hpn : p ≤ n := hiff.2 hkf
      have d1 : decide ((p : Int) ≤ (n : Int)) = true := by simp; omega
      have d1' : decide (p ≤ n) = true := by simp; omega
      clear hiff
      go_wp2_with (first
        | (go_at_call 179; refine h1.out.mono ?_; rintro e w1 ⟨rfl, hw1⟩; obtain rfl : w = w1 := hw1.symm)
        | (go_at_call 169; refine H2.out.mono ?_; rintro e w1 ⟨rfl, hw1⟩; obtain rfl : w = w1 := hw1.symm))
      go_round
      case rel => exact ⟨k + 1, by omega, by go_num⟩
      case measure => simp [intOf]; omega
    · have hpn : ¬ p ≤ n := fun h => hkf (hiff.1 h)
      have d1 : decide ((p : Int) ≤ (n : Int)) = false := by simp; omega
      have d1' : decide (p ≤ n) = false := by simp; omega
      clear hiff
      go_wp2_with (first
        | (go_at_call 179; refine h1.out.mono ?_; rintro e w1 ⟨rfl, hw1⟩; obtain rfl : w = w1 := hw1.symm)
        | (go_at_call 169; refine H2.out.mono ?_; rintro e w1 ⟨rfl, hw1⟩; obtain rfl : w = w1 := hw1.symm))
      go_ret
      exact ⟨ret_int (by omega), rfl⟩
theorem putIntR_small (A : Option Addr) (m c : Nat) (xs : List UInt8) (n : Nat) (w : World) (hx : Bytes w A m c xs) (hm : m ≤ 900000) (hn : n ≤ 127) :
    Calls Tryz.prog 110 #[.slice A m c, .int .i64 (n : Int)] w (RetOwn w.heap.size w (xs ++ [UInt8.ofNat n])) := by
  have h1 := Lib.hid (numberR_any n w (by omega))
  have h2 := sizeR_any n w (by omega)
  rw [furL_small hn] at h2
  have H2 := Lib.hid h2; clear h2
  have Hx := Lib.hid hx.1
  have m1 : Hid (0 + m ≤ maxLen ∧ (0 + m) * 1 ≤ 140737488355328) := ⟨by simp [maxLen]; omega, by omega⟩
  have m2 : Hid (m + 1 ≤ maxLen ∧ (m + 1) * 1 ≤ 140737488355328) := ⟨by simp [maxLen]; omega, by omega⟩
  have hv : Hid (encB (UInt8.ofNat n) = .int .u8 (n : Int)) := by show _ = _; unfold encB; rw [UInt8.toNat_ofNat', Nat.mod_eq_of_lt (by omega)]
  go_enter Tryz.func110, Tryz.ntmps110
  go_wp2_with (first
    | (go_at_call 179; refine h1.out.mono ?_; rintro e w1 ⟨rfl, hw1⟩; obtain rfl : w = w1 := hw1.symm)
    | (go_at_call 170; refine H2.out.mono ?_; rintro e w1 ⟨rfl, hw1⟩; obtain rfl : w = w1 := hw1.symm)
    | (at_builtin; refine wpList_app (enc := encB) rfl (.tmp 13) (.tmp 14) rfl uB infoB encB_one rfl rfl (Own.nil encB w w.heap.size _) (Nat.le_refl _) A m c xs 0 Hx.out hx.2.2 rfl m1.out.1 m1.out.2 ?_; intro A6 c6 W6 ho6 hb6 hg6))
  rw [List.nil_append, Nat.zero_add] at ho6
  have H8 := power_any 8 W6 (by omega)
  have H0 := power_any 0 W6 (by omega)
  rw [show pw 8 = 256 from rfl] at H8
  rw [show pw 0 = 1 from rfl] at H0
  have G8 := Lib.hid H8; clear H8
  have G0 := Lib.hid H0; clear H0
  have hsz6 := Lib.hid hb6.size
  refine G8.out.mono ?_
  rintro e w1 ⟨rfl, hw1⟩
  obtain rfl : W6 = w1 := hw1.symm
  go_wp2_with fail
  refine G0.out.mono ?_
  rintro e w1 ⟨rfl, hw1⟩
  obtain rfl : W6 = w1 := hw1.symm
  go_wp2_with (at_builtin; refine wpList_pushv (enc := encB) rfl (.tmp 16) (.tmp 28) rfl uB infoB encB_one rfl rfl ho6 hsz6.out (UInt8.ofNat n) _ hv.out rfl m2.out.1 m2.out.2 ?_; intro A7 c7 W7 ho7 hb7)
  refine wp_loop_rounds 1 ?_
  rw [rounds_succ]
  go_wp2_with fail
  go_ret
  exact RetOwn.mk ho7 (hb6.trans hb7)
def RetIntB (w : World) (x : Nat × List UInt8 × Nat) (e : Ending) (w' : World) : Prop := ∃ A m c, e = .returned (.tuple #[.int .i64 (x.1 : Int), .slice A m c, .int .i64 (x.2.2 : Int)]) ∧ Own encB w' w.heap.size 5 A m c x.2.1 ∧ Below w.heap.size w w'
theorem RetIntB.err {w w' : World} {x : Nat × List UInt8 × Nat} {k : Nat} (hx : x = (0, [], k)) (hb : Below w.heap.size w w') : RetIntB w x (.returned (.tuple #[.int .i64 0, .slice none 0 0, .int .i64 (k : Int)])) w' := by
  subst hx
  exact ⟨none, 0, 0, rfl, Own.nil _ _ _ _, hb⟩

end Go.Proofs.YtohadkmaemmfgaaGreatDoor.Bwt
namespace Go.Proofs.YtohadkmaemmfgaaGreatDoor.Dic
open Go.RowKit Go.Proofs Go.Sort
set_option linter.unusedVariables false
theorem learnSel_ok {ws : List (List UInt8)} : ∀ (m : Nat) (out : List (List UInt8)), out.Nodup → (∀ s ∈ out, s ∈ ws ∧ candP ws s) → (learnSel ws m out).Nodup ∧ (∀ s ∈ learnSel ws m out, s ∈ ws ∧ candP ws s) ∧ (learnSel ws m out).length ≤ out.length + m
  | 0, out, h1, h2 => ⟨h1, h2, Nat.le_refl _⟩
  | m + 1, out, h1, h2 => by
    rw [learnSel]
    have B := best_any (ws := ws) (out := out) (Nat.le_refl _)
    by_cases h : (bestTo ws out ws.length).2 ≤ 0
    · rw [if_pos h]; exact ⟨h1, h2, by omega⟩
    · rw [if_neg h]
      obtain ⟨b1, b2, b3, b4⟩ := B.mem (by omega)
      have ih := learnSel_ok m (out ++ [(bestTo ws out ws.length).1]) (by
        rw [List.nodup_append]
        refine ⟨h1, by simp, fun a ha b hb e => ?_⟩
        rw [List.mem_singleton] at hb
        subst hb e
        exact b3 ha) (fun s hs => by
        rw [List.mem_append, List.mem_singleton] at hs
        rcases hs with hs | rfl
        · exact h2 s hs
        · exact ⟨b1, b2⟩)
      refine ⟨ih.1, ih.2.1, ?_⟩
      have := ih.2.2
      rw [List.length_append] at this
      simp at this
      omega
theorem learn_check (bs : List UInt8) {most : Nat} (h : most ≤ 64) : checkL (learnL bs most) = 0 := by
  obtain ⟨h1, h2, h3⟩ := learnSel_ok (ws := wordsL bs) most [] List.nodup_nil (fun s hs => by cases hs)
  exact checkL_zero.2 ⟨by simp at h3; unfold learnL; omega, fun s hs => (h2 s hs).2.1, h1⟩
def textsL : List (List UInt8) → List UInt8
  | [] => []
  | s :: r => UInt8.ofNat s.length :: s ++ textsL r
theorem textsL_append (x y : List (List UInt8)) : textsL (x ++ y) = textsL x ++ textsL y := by
  induction x with
  | nil => rfl
  | cons s r ih => simp [textsL, ih]
def forwardL (bs : List UInt8) : List UInt8 := UInt8.ofNat (learnL bs 64).length :: textsL (learnL bs 64) ++ codeL (learnL bs 64) bs
theorem word_le {s : List UInt8} (h : isWordB s = true) : s.length ≤ 32 := by simp [isWordB] at h; exact h.2.1
def forwardQ (bs : List UInt8) : List UInt8 × Nat := if 65536 < bs.length then ([], 5) else if 65536 < (codeL (learnL bs 64) bs).length then ([], 5) else if 65536 < (forwardL bs).length then ([], 5) else (forwardL bs, 0)
theorem forwardP_gen (A : Option Addr) (c m : Nat) (bs : List UInt8) (w : World) (hy : Bytes w A m c bs) (hm : m ≤ 65536) :
    Calls Tryz.prog 35 #[.slice A m c] w (RetBytes w (forwardQ bs).1 ((forwardQ bs).2 : Nat)) := by
  have Hl := Lib.hid hy.1
  have hcal := learnP_any A c m bs 64 w hy hm (by omega)
  have hck := learn_check bs (most := 64) (by omega)
  obtain ⟨hwl, hww, hwn⟩ := checkL_zero.1 hck
  have hlr : learnR bs 64 = (learnL bs 64, 0) := by unfold learnR; rw [if_neg (by omega)]; rfl
  rw [hlr] at hcal
  have Hcal := Lib.hid hcal; clear hcal hlr
  have hF : Hid (forwardL bs = UInt8.ofNat (learnL bs 64).length :: textsL (learnL bs 64) ++ codeL (learnL bs 64) bs) := rfl
  have hQ : Hid (forwardQ bs = if 65536 < (codeL (learnL bs 64) bs).length then ([], 5) else if 65536 < (forwardL bs).length then ([], 5) else (forwardL bs, 0)) := by show _ = _; unfold forwardQ; rw [hy.1, if_neg (by omega)]
  obtain ⟨ws, hws⟩ : ∃ ws, ws = learnL bs 64 := ⟨_, rfl⟩
  rw [← hws] at Hcal hF hQ hck hwl hww
  clear hws hwn
  have Hck := Lib.hid hck; clear hck
  have Hww := Lib.hid hww; clear hww
  go_enter Tryz.func35, Tryz.ntmps35
  go_wp2_with fail
  refine Hcal.out.mono ?_
  rintro e w1 ⟨A1, n1, c1, rfl, hs1, hb1⟩
  have Hn1 := Lib.hid hs1.1
  rw [Hn1.out] at hwl
  have hcc := codeP_gen A1 A c1 c n1 m ws bs w1 hs1 (hy.below hb1) (by omega) (fun s hs => by have := word_le (Hww.out s hs); omega) hm
  have hcr : codeQ ws bs = if 65536 < (codeL ws bs).length then ([], 5) else (codeL ws bs, 0) := by unfold codeQ codeR; rw [if_pos Hck.out]; simp only [true_and]
  by_cases hlc : 65536 < (codeL ws bs).length
  · have hQ2 : Hid (forwardQ bs = ([], 5)) := by show _ = _; rw [hQ.out, if_pos hlc]
    rw [hcr, if_pos hlc] at hcc
    have Hcc := Lib.hid hcc
    clear hcc hcr Hcal hlc
    go_wp2_with fail
    refine Hcc.out.mono ?_
    rintro e w2 ⟨A2, n2, c2, rfl, hx2, hb2⟩
    go_wp2_with fail
    go_ret2
    rw [hQ2.out]
    exact RetBytes.err rfl (hb1.trans (hb2.mono hb1.size))
  rw [hcr, if_neg hlc] at hcc
  have hQ3 : Hid (forwardQ bs = if 65536 < (forwardL bs).length then ([], 5) else (forwardL bs, 0)) := by show _ = _; rw [hQ.out, if_neg hlc]
  have HLC := Lib.hid hlc
  have Hcc := Lib.hid hcc; clear hcc hcr Hcal hlc hQ
  go_wp2_with fail
  refine Hcc.out.mono ?_
  rintro e w2 ⟨A2, n2, c2, rfl, hx2, hb2⟩
  have hs2 := hs1.below hb2
  have hn2 : n2 ≤ 65536 := by rw [← hx2.1]; have := HLC.out; omega
  have hpi := Lib.hid (putInt_small none 0 0 [] n1 w2 (Bytes.nil w2 0) (by omega) (by omega))
  clear Hcc hs1
  go_wp2_with fail
  refine hpi.out.mono ?_
  rintro e w3 ⟨A3, n3, c3, rfl, ho3, hb3⟩
  rw [List.nil_append] at ho3
  have hn3 : n3 ≤ 1 := by rw [← ho3.length]; simp
  clear hpi
  have hb13 : Below w2.heap.size w2 w3 := hb3
  go_wp2_with fail
  go_loopw [7, 9, 32] (fun o _ i wr => ∃ (k : Nat) (A4 : Option Addr) (n4 c4 : Nat) (B4 : Nat), k ≤ n1 ∧ i = .int .i64 (k : Int) ∧ o = .slice A4 n4 c4 ∧ n4 ≤ 1 + 33 * k ∧ w2.heap.size ≤ B4 ∧ B4 ≤ wr.heap.size ∧ Own encB wr B4 5 A4 n4 c4 (UInt8.ofNat n1 :: textsL (ws.take k)) ∧ Below w2.heap.size w2 wr) (fun _ _ i _ => n1 - (intOf i).toNat)
  case atStart => exact ⟨0, A3, n3, c3, w2.heap.size, Nat.zero_le _, rfl, rfl, by omega, Nat.le_refl _, hb3.size, ho3, hb3⟩
  case round =>
    obtain ⟨k, A4, n4, c4, B4, hk, rfl, rfl, hn4, hB4, hB4', ho4, hb4⟩ := hrel
    by_cases hlt : k < n1
    · have dk : decide ((k : Int) < (n1 : Int)) = true := by simp; omega
      have dk' : decide (k < n1) = true := by simp; omega
      have hkl : k < ws.length := by rw [Hn1.out]; exact hlt
      obtain ⟨b5, off5, rfl, hb5, hc5⟩ := (hs2.below hb4).get hlt
      have c5 := hc5 k hlt
      clear hc5
      have hwk : (gs ws k).length ≤ 32 := by rw [gs_get hkl]; exact word_le (Hww.out _ (List.getElem_mem hkl))
      have hnx : Hid (textsL (ws.take (k + 1)) = textsL (ws.take k) ++ (UInt8.ofNat (gs ws k).length :: gs ws k)) := by
        show _ = _
        rw [List.take_succ_eq_append_getElem hkl, textsL_append, ← gs_get hkl]
        simp [textsL]
      have hpt := Lib.hid (putText_small A4 n4 c4 _ (gs ws k) wr ho4.bytesBDic (by omega) (by omega))
      have hlen4 := Lib.hid ho4.length
      go_wp2_with fail
      refine hpt.out.mono ?_
      rintro e w6 ⟨A6, n6, c6, rfl, ho6, hb6⟩
      have hn6 : Hid (n6 ≤ n4 + 33) := by
        show _ ≤ _
        have h1 := ho6.length
        rw [List.length_append, hlen4.out] at h1
        simp at h1
        omega
      go_wp2_with fail
      go_roundw
      case rel => exact ⟨k + 1, A6, n6, c6, wr.heap.size, by omega, by go_num, rfl, by have := hn6.out; omega, hb4.size, hb6.size, by rw [hnx.out]; simpa using ho6, hb4.trans (hb6.mono hb4.size)⟩
      case measure => simp [intOf]; omega
    · have dk : decide ((k : Int) < (n1 : Int)) = false := by simp; omega
      have dk' : decide (k < n1) = false := by simp; omega
      have hnx : Hid (ws.take k = ws) := List.take_of_length_le (by rw [Hn1.out]; omega)
      have hx4 := hx2.below hb4
      have m1 : Hid (n4 + n2 ≤ maxLen ∧ (n4 + n2) * 1 ≤ 140737488355328) := ⟨by simp [maxLen]; omega, by omega⟩
      have HxL := Lib.hid hx4.1
      have hB4h := Lib.hid hB4'
      have hFl : (forwardL bs).length = n4 + n2 := by
        rw [hF.out, List.length_append, hx2.1, ← ho4.length, hnx.out, Hn1.out]
      by_cases h65 : 65536 < n4 + n2
      · have hQ4 : Hid (forwardQ bs = ([], 5)) := by show _ = _; rw [hQ3.out, hFl, if_pos h65]
        have d65 : decide ((65536 : Int) < ((n4 + n2 : Nat) : Int)) = true := by simp; omega
        have d65' : decide ((65536 : Int) < (n4 : Int) + (n2 : Int)) = true := by simp; omega
        clear hFl h65
        go_wp2_with (at_builtin; refine wpList_app (enc := encB) rfl (.tmp 40) (.tmp 41) rfl uB infoB encB_one rfl rfl ho4 hB4h.out A2 n2 c2 (codeL ws bs) 0 HxL.out hx4.2.2 rfl m1.out.1 m1.out.2 ?_; intro A7 c7 W7 ho7 hb7 hg7)
        go_ret2
        rw [hQ4.out]
        refine RetBytes.err rfl ?_
        exact hb1.trans ((hb2.trans ((hb4.mono hb2.size).trans (hb7.mono (Nat.le_trans hb2.size hB4)))).mono hb1.size)
      have hQ4 : Hid (forwardQ bs = (forwardL bs, 0)) := by show _ = _; rw [hQ3.out, hFl, if_neg h65]
      have d65 : decide ((65536 : Int) < ((n4 + n2 : Nat) : Int)) = false := by simp; omega
      have d65' : decide ((65536 : Int) < (n4 : Int) + (n2 : Int)) = false := by simp; omega
      clear hFl h65
      go_wp2_with (at_builtin; refine wpList_app (enc := encB) rfl (.tmp 40) (.tmp 41) rfl uB infoB encB_one rfl rfl ho4 hB4h.out A2 n2 c2 (codeL ws bs) 0 HxL.out hx4.2.2 rfl m1.out.1 m1.out.2 ?_; intro A7 c7 W7 ho7 hb7 hg7)
      go_ret2
      rw [hQ4.out]
      show RetBytes _ (forwardL bs) _ _ _
      rw [hF.out, Hn1.out]
      rw [hnx.out] at ho7
      refine RetBytes.mk rfl (Own.bytesBDic ho7) ?_
      exact hb1.trans ((hb2.trans ((hb4.mono hb2.size).trans (hb7.mono (Nat.le_trans hb2.size hB4)))).mono hb1.size)
theorem forwardP_long (A : Option Addr) (c m : Nat) (w : World) (hm : 65536 < m) (hm2 : m ≤ 1000000000) :
    Calls Tryz.prog 35 #[.slice A m c] w (RetBytes w [] 5) := by
  have Hcal := Lib.hid (learnP_long A c m 64 w hm hm2)
  go_enter Tryz.func35, Tryz.ntmps35
  go_wp2_with fail
  refine Hcal.out.mono ?_
  rintro e w1 ⟨A1, n1, c1, rfl, hs1, hb1⟩
  go_wp2_with fail
  go_ret2
  exact RetBytes.err rfl hb1
theorem forwardQ_any (A : Option Addr) (c m : Nat) (bs : List UInt8) (w : World) (hy : Bytes w A m c bs) (hm : m ≤ 1000000000) :
    Calls Tryz.prog 35 #[.slice A m c] w (RetBytes w (forwardQ bs).1 ((forwardQ bs).2 : Nat)) := by
  by_cases h : 65536 < m
  · have e : forwardQ bs = ([], 5) := by unfold forwardQ; rw [hy.1, if_pos h]
    rw [e]
    exact forwardP_long A c m w h hm
  · exact forwardP_gen A c m bs w hy (by omega)
theorem forwardQ_length (bs : List UInt8) : (forwardQ bs).1.length ≤ 65536 := by
  unfold forwardQ
  split
  · exact Nat.zero_le _
  · split
    · exact Nat.zero_le _
    · split
      · exact Nat.zero_le _
      · rename_i h; show (forwardL bs).length ≤ _; omega
def hiC (l : List UInt8) : Nat := l.countP (fun b => decide (128 ≤ b.toNat))
end Go.Proofs.YtohadkmaemmfgaaGreatDoor.Dic
