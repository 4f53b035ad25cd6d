/- Da Dc Dd De Dp Dq Df. -/
import Derived.Test.YtohadkmaemmfgaaGreatDoorProg
import Derived.Test.YtohadkmaemmfgaaGreatDoorRA12
import Derived.Test.YtohadkmaemmfgaaGreatDoorRA01
import Derived.WalkLawsBesides
import Derived.Sort.QuietIn
import Derived.Sort.CutIn
import Derived.Lib.ConvBytes
set_option maxRecDepth 100000
set_option maxHeartbeats 4000000
namespace Go.Proofs.YtohadkmaemmfgaaGreatDoor.Dic
open Go.RowKit Go.Proofs
set_option linter.unusedVariables false
attribute [local go_sem] Oper.semAt_some
theorem tB : Tryz.prog.underlying 23 = some (.slice (Tryz.prog.elem 23)) := by kernel_rfl
theorem eB : Tryz.prog.elem 23 = 5 := by kernel_rfl
theorem sB : ∀ W : World, (sizeOf 5).run Tryz.prog W = .ok 1 W := fun _ => by kernel_rfl
theorem uB : Tryz.prog.underlying 23 = some (.slice 5) := by kernel_rfl
theorem u8 : Tryz.prog.underlying 5 = some (.int .u8) := by kernel_rfl
theorem uS : Tryz.prog.underlying 9 = some .string := by kernel_rfl
theorem letter_any (x : Int) (w : World) : Calls Tryz.prog 204 #[.int .u8 x] w fun e w' => e = .returned (.bool (letterI x)) ∧ w' = w := by
  by_cases h1 : 97 ≤ x
  · by_cases h2 : x ≤ 122
    · have hfin : Hid (letterI x = true) := by show _ = _; simp [letterI, h1, h2]
      have d1 : decide (97 ≤ x) = true := by simpa using h1
      have d2 : decide (x ≤ 122) = true := by simpa using h2
      go_enter Tryz.func204, Tryz.ntmps204
      go_wp2
      go_ret
      exact ⟨ret_bool hfin.out.symm, rfl⟩
    · have hfin : Hid (letterI x = false) := by show _ = _; simp [letterI, h1, h2]; omega
      have d1 : decide (97 ≤ x) = true := by simpa using h1
      have d2 : decide (x ≤ 122) = false := by simpa using h2
      have d3 : decide (65 ≤ x) = true := by simp; omega
      have d4 : decide (x ≤ 90) = false := by simp; omega
      go_enter Tryz.func204, Tryz.ntmps204
      go_wp2
      go_ret
      exact ⟨ret_bool hfin.out.symm, rfl⟩
  · have d1 : decide (97 ≤ x) = false := by simpa using h1
    by_cases h3 : 65 ≤ x
    · have hfin : Hid (letterI x = decide (x ≤ 90)) := by show _ = _; simp [letterI, h1, h3]
      have d3 : decide (65 ≤ x) = true := by simpa using h3
      go_enter Tryz.func204, Tryz.ntmps204
      go_wp2
      go_ret
      exact ⟨ret_bool hfin.out.symm, rfl⟩
    · have hfin : Hid (letterI x = false) := by show _ = _; simp [letterI, h1, h3]
      have d3 : decide (65 ≤ x) = false := by simpa using h3
      go_enter Tryz.func204, Tryz.ntmps204
      go_wp2
      go_ret
      exact ⟨ret_bool hfin.out.symm, rfl⟩
theorem letterR_any (x : Int) (w : World) : Calls Tryz.prog 233 #[.int .u8 x] w fun e w' => e = .returned (.bool (letterI x)) ∧ w' = w := by
  by_cases h1 : 97 ≤ x
  · by_cases h2 : x ≤ 122
    · have hfin : Hid (letterI x = true) := by show _ = _; simp [letterI, h1, h2]
      have d1 : decide (97 ≤ x) = true := by simpa using h1
      have d2 : decide (x ≤ 122) = true := by simpa using h2
      go_enter Tryz.func233, Tryz.ntmps233
      go_wp2
      go_ret
      exact ⟨ret_bool hfin.out.symm, rfl⟩
    · have hfin : Hid (letterI x = false) := by show _ = _; simp [letterI, h1, h2]; omega
      have d1 : decide (97 ≤ x) = true := by simpa using h1
      have d2 : decide (x ≤ 122) = false := by simpa using h2
      have d3 : decide (65 ≤ x) = true := by simp; omega
      have d4 : decide (x ≤ 90) = false := by simp; omega
      go_enter Tryz.func233, Tryz.ntmps233
      go_wp2
      go_ret
      exact ⟨ret_bool hfin.out.symm, rfl⟩
  · have d1 : decide (97 ≤ x) = false := by simpa using h1
    by_cases h3 : 65 ≤ x
    · have hfin : Hid (letterI x = decide (x ≤ 90)) := by show _ = _; simp [letterI, h1, h3]
      have d3 : decide (65 ≤ x) = true := by simpa using h3
      go_enter Tryz.func233, Tryz.ntmps233
      go_wp2
      go_ret
      exact ⟨ret_bool hfin.out.symm, rfl⟩
    · have hfin : Hid (letterI x = false) := by show _ = _; simp [letterI, h1, h3]
      have d3 : decide (65 ≤ x) = false := by simpa using h3
      go_enter Tryz.func233, Tryz.ntmps233
      go_wp2
      go_ret
      exact ⟨ret_bool hfin.out.symm, rfl⟩
theorem run_any (A : Option Addr) (n c p : Nat) (bs : List UInt8) (w : World) (hx : Bytes w A n c bs) (hn : n ≤ 1000000000) (hp : p ≤ n) :
    Calls Tryz.prog 178 #[.slice A n c, .int .i64 (p : Int)] w fun e w' => e = .returned (.int .i64 ((p + runL (bs.drop p) : Nat) : Int)) ∧ w' = w := by
  have Hl := Lib.hid hx.1
  have Hr : Hid (runL (bs.drop p) ≤ n - p) := by have := runL_le (bs.drop p); rw [List.length_drop, Hl.out] at this; exact this
  obtain ⟨r, hr⟩ : ∃ r, r = runL (bs.drop p) := ⟨_, rfl⟩
  have HR := Lib.hid hr
  rw [← hr] at Hr
  rw [← hr]; clear hr
  have hrn := Hr.out
  go_enter Tryz.func178, Tryz.ntmps178
  go_wp2
  go_loop [1] (fun i => ∃ k : Nat, k ≤ r ∧ i = .int .i64 ((p + k : Nat) : Int)) (fun i => p + r - (intOf i).toNat)
  case atStart => exact ⟨0, by omega, rfl⟩
  case round =>
    obtain ⟨k, hk, rfl⟩ := hrel
    by_cases hlt : p + k < n
    · have d1 : decide (((p + k : Nat) : Int) < (n : Int)) = true := by simp; omega
      have d1' : decide ((p : Int) + (k : Int) < (n : Int)) = true := by simp; omega
      obtain ⟨b, off, rfl, -, hcell⟩ := hx.get hlt
      have c1 := hcell (p + k) hlt
      clear hcell
      by_cases hkr : k < r
      · have hle := runL_letter (bs := bs.drop p) (k := k) (by rw [← HR.out]; exact hkr)
        rw [gb_drop] at hle
        have hcal := letterR_any (gb bs (p + k)) w
        rw [hle] at hcal
        have Hcal := Lib.hid hcal; clear hcal hle
        go_wp2_with (go_at_call 233; refine Hcal.out.mono ?_; rintro e w1 ⟨rfl, hw1⟩; obtain rfl : w = w1 := hw1.symm)
        go_round
        case rel => exact ⟨k + 1, by omega, by go_num⟩
        case measure => simp [intOf]; omega
      · obtain rfl : k = r := by omega
        have hle := runL_stop (bs := bs.drop p) (by rw [← HR.out, List.length_drop, Hl.out]; omega)
        rw [← HR.out, gb_drop] at hle
        have hcal := letterR_any (gb bs (p + k)) w
        rw [hle] at hcal
        have Hcal := Lib.hid hcal; clear hcal hle
        go_wp2_with (go_at_call 233; refine Hcal.out.mono ?_; rintro e w1 ⟨rfl, hw1⟩; obtain rfl : w = w1 := hw1.symm)
        go_ret
        exact ⟨rfl, rfl⟩
    · have d1 : decide (((p + k : Nat) : Int) < (n : Int)) = false := by simp; omega
      have d1' : decide ((p : Int) + (k : Int) < (n : Int)) = false := by simp; omega
      go_wp2
      go_ret
      exact ⟨ret_int (by omega), rfl⟩
end Go.Proofs.YtohadkmaemmfgaaGreatDoor.Dic
namespace Go.Proofs.YtohadkmaemmfgaaGreatDoor.Dic
open Go.RowKit Go.Proofs
set_option linter.unusedVariables false
def gs (ss : List (List UInt8)) (k : Nat) : List UInt8 := ss.getD k []
def Strs (w : World) (A : Option Addr) (n c : Nat) (ss : List (List UInt8)) : Prop := ss.length = n ∧ n ≤ c ∧ Cells w A n (fun i => .string (strB (gs ss i)))
section
variable {w w' : World} {A : Option Addr} {n c k : Nat} {ss : List (List UInt8)}
theorem Strs.get (h : Strs w A n c ss) (hk : k < n) : ∃ b off, A = some ⟨b, off, none⟩ ∧ b < w.heap.size ∧ ∀ i, i < n → w.cell? ⟨b, off + i, none⟩ = some (.string (strB (gs ss i))) := h.2.2 (by omega)
theorem Strs.below (h : Strs w A n c ss) (hb : Below w.heap.size w w') : Strs w' A n c ss := ⟨h.1, h.2.1, h.2.2.below hb⟩
theorem Strs.drewN (h : Strs w A n c ss) (q : Nat) : Strs (w.drewN q) A n c ss := h
theorem gs_get (h : k < ss.length) : gs ss k = ss[k] := by simp [gs, List.getD, h]
end
theorem strB_size (x : List UInt8) : (strB x).size = x.length := by simp [strB, ByteArray.size]
def placeL (ss : List (List UInt8)) (s : List UInt8) : Int := if ss.idxOf s < ss.length then (ss.idxOf s : Int) else -1
theorem idxOf_at {ss : List (List UInt8)} {s : List UInt8} {k : Nat} (hk : k < ss.length) (h1 : ∀ j, j < k → gs ss j ≠ s) (h2 : gs ss k = s) : ss.idxOf s = k := by
  induction ss generalizing k with
  | nil => simp at hk
  | cons x r ih =>
    cases k with
    | zero => have : x = s := h2; subst this; simp
    | succ k =>
      have hx : x ≠ s := h1 0 (by omega)
      rw [List.idxOf_cons, ih (k := k) (by simpa using hk) (fun j hj => h1 (j + 1) (by omega)) h2, beq_eq_false_iff_ne.2 hx]
      rfl
theorem placeL_at {ss : List (List UInt8)} {s : List UInt8} {k : Nat} (hk : k < ss.length) (h1 : ∀ j, j < k → gs ss j ≠ s) (h2 : gs ss k = s) : placeL ss s = k := by
  unfold placeL; rw [idxOf_at hk h1 h2, if_pos hk]
theorem placeL_none {ss : List (List UInt8)} {s : List UInt8} (h : ∀ j, j < ss.length → gs ss j ≠ s) : placeL ss s = -1 := by
  unfold placeL
  rw [if_neg]
  rw [List.idxOf_lt_length_iff]
  intro hm
  obtain ⟨i, hi, e⟩ := List.mem_iff_getElem.1 hm
  exact h i hi (by rw [gs_get hi]; exact e)
theorem place_any (A : Option Addr) (c n : Nat) (ss : List (List UInt8)) (s : List UInt8) (w : World) (hx : Strs w A n c ss) (hn : n ≤ 1000000000) :
    Calls Tryz.prog 176 #[.slice A n c, .string (strB s)] w fun e w' => e = .returned (.int .i64 (placeL ss s)) ∧ w' = w := by
  have Hl := Lib.hid hx.1
  go_enter Tryz.func176, Tryz.ntmps176
  go_wp2
  go_loop [5] (fun i => ∃ k : Nat, k ≤ n ∧ i = .int .i64 k ∧ Hid (∀ j, j < k → gs ss j ≠ s)) (fun i => n - (intOf i).toNat)
  case atStart => exact ⟨0, Nat.zero_le _, rfl, fun j hj => absurd hj (by omega)⟩
  case round =>
    obtain ⟨k, hk, rfl, HK⟩ := hrel
    by_cases hlt : k < n
    · obtain ⟨b, off, rfl, hb, hc⟩ := hx.get hlt
      have h1 := hc k hlt
      clear hc
      by_cases he : gs ss k = s
      · have hd : ((strB (gs ss k)).toList == (strB s).toList) = true := by rw [strB_beq]; exact decide_eq_true he
        have hfin : Hid (placeL ss s = k) := placeL_at (by rw [Hl.out]; exact hlt) HK.out he
        clear he
        go_wp2
        go_ret
        exact ⟨ret_int hfin.out.symm, rfl⟩
      · have hd : ((strB (gs ss k)).toList == (strB s).toList) = false := by rw [strB_beq]; exact decide_eq_false he
        have He := Lib.hid he; clear he
        go_wp2
        go_round
        case rel => exact ⟨k + 1, by omega, by go_num, fun j hj => by
          rcases Nat.lt_succ_iff_lt_or_eq.1 hj with h | h
          · exact HK.out j h
          · subst h; exact He.out⟩
        case measure => simp [intOf]; omega
    · have hfin : Hid (placeL ss s = -1) := placeL_none (fun j hj => HK.out j (by have := Hl.out; omega))
      go_wp2
      go_ret
      exact ⟨ret_int hfin.out.symm, rfl⟩
def gainL (k len : Nat) : Int := (k : Int) * ((len : Int) - 1) - ((len : Int) + 1)
def cntS (ss : List (List UInt8)) (s : List UInt8) : Nat → Nat
  | 0 => 0
  | k + 1 => cntS ss s k + if gs ss k = s then 1 else 0
theorem cntS_le (ss : List (List UInt8)) (s : List UInt8) : ∀ k, cntS ss s k ≤ k
  | 0 => Nat.le_refl _
  | k + 1 => by rw [cntS]; have := cntS_le ss s k; split <;> omega
theorem gain_any (A : Option Addr) (c n : Nat) (ss : List (List UInt8)) (s : List UInt8) (w : World) (hx : Strs w A n c ss) (hn : n ≤ 1000000000) (hs : s.length ≤ 1000000000) :
    Calls Tryz.prog 177 #[.slice A n c, .string (strB s)] w fun e w' => e = .returned (.int .i64 (gainL (cntS ss s n) s.length)) ∧ w' = w := by
  have Hz := Lib.hid (strB_size s)
  go_enter Tryz.func177, Tryz.ntmps177
  go_wp2
  go_loop [5, 6] (fun a i => ∃ k : Nat, k ≤ n ∧ i = .int .i64 k ∧ a = .int .i64 ((cntS ss s k : Nat) : Int)) (fun _ i => n - (intOf i).toNat)
  case atStart => exact ⟨0, Nat.zero_le _, rfl, rfl⟩
  case round =>
    obtain ⟨k, hk, rfl, rfl⟩ := hrel
    have hcl := cntS_le ss s k
    by_cases hlt : k < n
    · obtain ⟨b, off, rfl, hb, hc⟩ := hx.get hlt
      have h1 := hc k hlt
      clear hc
      by_cases he : gs ss k = s
      · have hd : ((strB (gs ss k)).toList == (strB s).toList) = true := by rw [strB_beq]; exact decide_eq_true he
        have hst : Hid (cntS ss s (k + 1) = cntS ss s k + 1) := by show _ = _; rw [cntS, if_pos he]
        clear he
        go_wp2
        go_round
        case rel => exact ⟨k + 1, by omega, by go_num, by rw [hst.out]; go_num⟩
        case measure => simp [intOf]; omega
      · have hd : ((strB (gs ss k)).toList == (strB s).toList) = false := by rw [strB_beq]; exact decide_eq_false he
        have hst : Hid (cntS ss s (k + 1) = cntS ss s k) := by show _ = _; rw [cntS, if_neg he]; rfl
        clear he
        go_wp2
        go_round
        case rel => exact ⟨k + 1, by omega, by go_num, by rw [hst.out]⟩
        case measure => simp [intOf]; omega
    · obtain rfl : k = n := by omega
      have hz := Hz.out
      have hmul : ((cntS ss s k : Nat) : Int) * ((s.length : Int) - 1) ≤ 1000000000 * 1000000000 := by
        rcases Nat.eq_zero_or_pos s.length with h | h
        · rw [h]; omega
        · exact Int.mul_le_mul (by omega) (by omega) (by omega) (by omega)
      have hmul0 : -1000000000 ≤ ((cntS ss s k : Nat) : Int) * ((s.length : Int) - 1) := by
        rcases Nat.eq_zero_or_pos s.length with h | h
        · rw [h]; simp; omega
        · have : 0 ≤ ((cntS ss s k : Nat) : Int) * ((s.length : Int) - 1) := Int.mul_nonneg (by omega) (by omega)
          omega
      go_wp2
      go_ret
      exact ⟨rfl, rfl⟩
theorem conv_bytes {P : Program} (src dst e : TypeId) (hs : P.underlying src = some .string) (hd : P.underlying dst = some (.slice e)) (he : P.underlying e = some (.int .u8)) (w : World) (s : List UInt8) :
    ∃ c w1, (convert src dst (.string (strB s))).run P w = .ok (.slice (some ⟨w.heap.size, 0, none⟩) s.length c) w1 ∧ Bytes w1 (some ⟨w.heap.size, 0, none⟩) s.length c s ∧ Below w.heap.size w w1 := by
  refine ⟨_, _, by rw [Lib.run_convert_string_bytes w src dst e (strB s) hs hd he, strB_size], ?_, ?_⟩
  · refine ⟨rfl, grownCap_ge _ _ _ _, fun hn => ⟨w.heap.size, 0, rfl, by rw [Lib.bytesWorld_size]; omega, fun i hi => ?_⟩⟩
    rw [Nat.zero_add, Lib.bytesWorld_cell _ _ _ _ (by rw [strB_size]; exact hi)]
    rfl
  · exact ⟨rfl, rfl, rfl, by rw [Lib.bytesWorld_size]; omega, fun k hk => Lib.bytesWorld_at_old _ _ _ k hk⟩
def isWordB (s : List UInt8) : Bool := decide (2 ≤ s.length) && (decide (s.length ≤ 32) && decide (runL s = s.length))
theorem isWord_any (s : List UInt8) (w : World) (hs : s.length ≤ 1000000000) :
    Calls Tryz.prog 175 #[.string (strB s)] w fun e w' => e = .returned (.bool (isWordB s)) ∧ Below w.heap.size w w' := by
  have hz := strB_size s
  by_cases h1 : 2 ≤ s.length
  · by_cases h2 : s.length ≤ 32
    · have d1 : decide ((2 : Int) ≤ (s.length : Int)) = true := by simp; omega
      have d2 : decide ((s.length : Int) ≤ 32) = true := by simp; omega
      obtain ⟨c, w1, hr, hb, hbel⟩ := conv_bytes (P := Tryz.prog) 9 23 5 uS uB u8 w s
      have hcal := run_any _ _ _ 0 _ _ hb (by omega) (by omega)
      have Hcal := Lib.hid hcal; clear hcal
      have hfin : Hid ((((runL s : Nat) : Int) == (s.length : Int)) = isWordB s) := by
        show _ = _
        simp only [isWordB, decide_eq_true h1, decide_eq_true h2, Bool.true_and]
        by_cases h : runL s = s.length
        · rw [h]; simp
        · rw [decide_eq_false h]; simp; omega
      go_enter Tryz.func175, Tryz.ntmps175
      go_wp2_with fail
      refine Hcal.out.mono ?_
      rintro e w2 ⟨rfl, hw2⟩
      obtain rfl : w1 = w2 := hw2.symm
      go_wp2_with fail
      go_ret
      exact ⟨ret_bool hfin.out, hbel⟩
    · have d1 : decide ((2 : Int) ≤ (s.length : Int)) = true := by simp; omega
      have d2 : decide ((s.length : Int) ≤ 32) = false := by simp; omega
      have hfin : Hid (isWordB s = false) := by show _ = _; simp [isWordB, h2]
      go_enter Tryz.func175, Tryz.ntmps175
      go_wp2_with fail
      go_ret
      exact ⟨ret_bool hfin.out.symm, Below.refl _ _⟩
  · have d1 : decide ((2 : Int) ≤ (s.length : Int)) = false := by simp; omega
    have hfin : Hid (isWordB s = false) := by show _ = _; simp [isWordB, h1]
    go_enter Tryz.func175, Tryz.ntmps175
    go_wp2_with fail
    go_ret
    exact ⟨ret_bool hfin.out.symm, Below.refl _ _⟩
def wordsTo (bs : List UInt8) : Nat → List (List UInt8)
  | 0 => []
  | k + 1 => wordsTo bs k ++ if wdP bs k then [pcP bs k] else []
def wordsL (bs : List UInt8) : List (List UInt8) := wordsTo bs (piecesL bs).length
def encS (s : List UInt8) : Value := .string (strB s)
theorem encS_one (s : List UInt8) : (encS s).oneCell' = true := rfl
theorem uSS : Tryz.prog.underlying 77 = some (.slice 9) := by kernel_rfl
theorem infoS : (Tryz.prog.info? 9).map (fun i => (i.zero, i.size, i.bytes)) = some (some (encS []), 1, 16) := by kernel_rfl
theorem _root_.Go.Proofs.YtohadkmaemmfgaaGreatDoor.Own.strs {w : World} {B : Nat} {e : TypeId} {A : Option Addr} {n c : Nat} {ss : List (List UInt8)} (h : Own encS w B e A n c ss) : Strs w A n c ss := ⟨h.length, h.cap, h.cells []⟩
theorem wordsTo_le (bs : List UInt8) : ∀ k, (wordsTo bs k).length ≤ k
  | 0 => Nat.le_refl _
  | k + 1 => by rw [wordsTo, List.length_append]; have := wordsTo_le bs k; split <;> simp <;> omega
theorem pieces_count (bs : List UInt8) : ∀ k, k ≤ (piecesL bs).length → k ≤ stP bs k
  | 0, _ => Nat.zero_le _
  | k + 1, h => by rw [stP]; have := pieces_count bs k (by omega); have := plen_pos (bs.drop (stP bs k)); omega
theorem words_any (A : Option Addr) (c n : Nat) (bs : List UInt8) (w : World) (hx : Bytes w A n c bs) (hn : n ≤ 1000000) :
    Calls Tryz.prog 174 #[.slice A n c] w fun e w' => ∃ A2 n2 c2, e = .returned (.slice A2 n2 c2) ∧ Own encS w' w.heap.size 9 A2 n2 c2 (wordsL bs) ∧ Below w.heap.size w w' := by
  have Hl := Lib.hid hx.1
  go_enter Tryz.func174, Tryz.ntmps174
  go_wp2_with fail
  go_loopw [3, 4] (fun o i wr => ∃ (k : Nat) (A2 : Option Addr) (n2 c2 : Nat), k ≤ (piecesL bs).length ∧ i = .int .i64 ((stP bs k : Nat) : Int) ∧ o = .slice A2 n2 c2 ∧ Own encS wr w.heap.size 9 A2 n2 c2 (wordsTo bs k) ∧ Below w.heap.size w wr) (fun _ i _ => n - (intOf i).toNat)
  case atStart => exact ⟨0, none, 0, 0, Nat.zero_le _, rfl, rfl, Own.nil _ _ _ _, Below.refl _ _⟩
  case round =>
    obtain ⟨k, A2, n2, c2, hk, rfl, rfl, hown, hbel⟩ := hrel
    have hst := (pieces_at hk).1
    rw [Hl.out] at hst
    by_cases hlt : stP bs k < n
    · have hk' := pieces_more hk (by rw [Hl.out]; exact hlt)
      have d0 : decide (((stP bs k : Nat) : Int) < (n : Int)) = true := by simp; omega
      have d0' : decide (stP bs k < n) = true := by simp; omega
      have hxr := hx.below hbel
      have hcal := run_any _ _ _ (stP bs k) _ _ hxr (by omega) (by omega)
      have Hcal := Lib.hid hcal; clear hcal
      have hnext : stP bs (k + 1) = stP bs k + plen (bs.drop (stP bs k)) := rfl
      have hrl := runL_le (bs.drop (stP bs k))
      rw [List.length_drop, Hl.out] at hrl
      have hw : wordsTo bs (k + 1) = wordsTo bs k ++ if wdP bs k then [pcP bs k] else [] := rfl
      unfold wdP pcP at hw
      obtain ⟨r, hr⟩ : ∃ r, r = runL (bs.drop (stP bs k)) := ⟨_, rfl⟩
      unfold plen at hnext hw
      rw [← hr] at Hcal hnext hrl hw
      obtain ⟨st, hst'⟩ : ∃ st, st = stP bs k := ⟨_, rfl⟩
      rw [← hst'] at Hcal hnext hrl hst hlt d0 d0' hw ⊢
      clear hr
      have hwl := wordsTo_le bs k
      have hkst := pieces_count bs k hk
      rw [← hst'] at hkst
      have hn2 := hown.length
      rw [hn2] at hwl
      have Hn2 := Lib.hid hn2; clear hn2
      have Hw := Lib.hid hw; clear hw
      have Hnext := Lib.hid hnext; clear hnext
      clear hst'
      rcases Nat.eq_zero_or_pos r with h0 | h0
      · have hwd : Hid (wordsTo bs (k + 1) = wordsTo bs k) := by
          show _ = _; rw [Hw.out, h0]; simp
        have hn1 : Hid (stP bs (k + 1) = st + 1) := by show _ = _; rw [Hnext.out, h0]; rfl
        have d1 : (((st + r : Nat) : Int) == (st : Int)) = true := by simp; omega
        have d1' : ((st : Int) + (r : Int) == (st : Int)) = true := by simp; omega
        clear h0
        go_wp2_with (go_at_call 178; refine Hcal.out.mono ?_; rintro e w1 ⟨rfl, hw1⟩; obtain rfl : wr = w1 := hw1.symm)
        go_roundw
        case rel => exact ⟨k + 1, A2, n2, c2, hk', by rw [hn1.out]; go_num, rfl, by rw [hwd.out]; exact hown, hbel⟩
        case measure => simp [intOf]; omega
      · have hwd : Hid (wordsTo bs (k + 1) = wordsTo bs k ++ [(bs.drop st).take r]) := by
          show _ = _; rw [Hw.out, if_pos (by simpa using h0), show max r 1 = r by omega]
        have hn1 : Hid (stP bs (k + 1) = st + r) := by show _ = _; rw [Hnext.out, show max r 1 = r by omega]
        have d1 : (((st + r : Nat) : Int) == (st : Int)) = false := by simp; omega
        have d1' : ((st : Int) + (r : Int) == (st : Int)) = false := by simp; omega
        obtain ⟨A4, r4, v4⟩ := hxr.cut_lh tB eB sB (st : Int) ((st : Int) + (r : Int)) (by omega) (by omega) (by omega)
        rw [Int.toNat_natCast, show ((st : Int) + (r : Int)).toNat - st = r by omega] at r4 v4
        have s4 := v4.str 23 5 9 uB Go.Proofs.YtohadkmaemmfgaaGreatDoor.Dic.u8 uS
        have m1 : Hid (n2 + 1 ≤ maxLen ∧ (n2 + 1) * 16 ≤ 140737488355328) := ⟨by simp [maxLen]; omega, by omega⟩
        go_wp2_with (first
          | (go_at_call 178; refine Hcal.out.mono ?_; rintro e w1 ⟨rfl, hw1⟩; obtain rfl : wr = w1 := hw1.symm)
          | (at_builtin; refine wpList_push (enc := encS) rfl (.tmp 18) (.tmp 24) rfl uSS infoS encS_one rfl rfl hown hbel.size ((bs.drop st).take r) rfl m1.out.1 m1.out.2 ?_; intro A6 c6 W6 ho6 hb6))
        go_roundw
        case rel => exact ⟨k + 1, A6, n2 + 1, c6, hk', by rw [hn1.out]; go_num, rfl, by rw [hwd.out]; exact ho6, hbel.trans hb6⟩
        case measure => simp [intOf]; omega
    · have hkl : k = (piecesL bs).length := by
        rcases Nat.lt_or_ge k (piecesL bs).length with h | h
        · have := pieces_ne h
          rw [ne_eq, List.drop_eq_nil_iff, Hl.out] at this
          omega
        · omega
      have hwl : Hid (wordsL bs = wordsTo bs k) := by show _ = _; unfold wordsL; rw [hkl]
      clear hkl
      have d0 : decide (((stP bs k : Nat) : Int) < (n : Int)) = false := by simp; omega
      have d0' : decide (stP bs k < n) = false := by simp; omega
      go_wp2_with fail
      go_ret
      exact ⟨_, _, _, rfl, by rw [hwl.out]; exact hown, hbel⟩
def badAt (ws : List (List UInt8)) (j : Nat) : Nat := if isWordB (gs ws j) = false then 24 else if gs ws j ∈ ws.take j then 8 else 0
def checkTo (ws : List (List UInt8)) : Nat → Nat
  | 0 => 0
  | k + 1 => if checkTo ws k = 0 then badAt ws k else checkTo ws k
def checkL (ws : List (List UInt8)) : Nat := if 64 < ws.length then 6 else checkTo ws ws.length
theorem checkTo_stop {ws : List (List UInt8)} {k : Nat} (h0 : checkTo ws k = 0) (hb : badAt ws k ≠ 0) : ∀ n, k < n → checkTo ws n = badAt ws k
  | 0, h => by omega
  | n + 1, h => by
    rcases Nat.lt_or_ge k n with hk | hk
    · have := checkTo_stop h0 hb n hk
      rw [checkTo, if_neg (by rw [this]; exact hb), this]
    · obtain rfl : n = k := by omega
      rw [checkTo, if_pos h0]
theorem checkTo_zero {ws : List (List UInt8)} : ∀ {n : Nat}, checkTo ws n = 0 → ∀ j, j < n → badAt ws j = 0
  | 0, _, j, hj => by omega
  | n + 1, h, j, hj => by
    rw [checkTo] at h
    by_cases h0 : checkTo ws n = 0
    · rw [if_pos h0] at h
      rcases Nat.lt_succ_iff_lt_or_eq.1 hj with hlt | rfl
      · exact checkTo_zero h0 j hlt
      · exact h
    · rw [if_neg h0] at h; exact absurd h h0
theorem checkTo_of {ws : List (List UInt8)} : ∀ {n : Nat}, (∀ j, j < n → badAt ws j = 0) → checkTo ws n = 0
  | 0, _ => rfl
  | n + 1, h => by rw [checkTo, if_pos (checkTo_of fun j hj => h j (by omega)), h n (by omega)]
theorem badAt_zero {ws : List (List UInt8)} {j : Nat} : badAt ws j = 0 ↔ isWordB (gs ws j) = true ∧ gs ws j ∉ ws.take j := by
  unfold badAt
  by_cases h : isWordB (gs ws j) = false
  · simp [h]
  · rw [if_neg h]
    simp at h
    by_cases h2 : gs ws j ∈ ws.take j <;> simp [h, h2]
theorem checkL_zero {ws : List (List UInt8)} : checkL ws = 0 ↔ ws.length ≤ 64 ∧ (∀ s ∈ ws, isWordB s = true) ∧ ws.Nodup := by
  unfold checkL
  by_cases hl : 64 < ws.length
  · rw [if_pos hl]; constructor
    · intro h; cases h
    · intro h; omega
  · rw [if_neg hl]
    constructor
    · intro h
      have h1 := checkTo_zero h
      refine ⟨by omega, fun s hs => ?_, ?_⟩
      · obtain ⟨i, hi, rfl⟩ := List.mem_iff_getElem.1 hs
        have := (badAt_zero.1 (h1 i hi)).1
        rwa [gs_get hi] at this
      · rw [List.Nodup, List.pairwise_iff_getElem]
        intro i j hi hj hij e
        have := (badAt_zero.1 (h1 j hj)).2
        rw [gs_get hj] at this
        exact this (List.mem_iff_getElem.2 ⟨i, by simp; omega, by rw [List.getElem_take]; exact e⟩)
    · rintro ⟨-, h1, h2⟩
      refine checkTo_of fun j hj => badAt_zero.2 ⟨by rw [gs_get hj]; exact h1 _ (List.getElem_mem hj), ?_⟩
      rw [gs_get hj]
      intro hm
      obtain ⟨i, hi, e⟩ := List.mem_iff_getElem.1 hm
      rw [List.getElem_take] at e
      rw [List.Nodup, List.pairwise_iff_getElem] at h2
      simp at hi
      exact h2 i j (by omega) hj (by omega) e
def codeP (ws : List (List UInt8)) (p : List UInt8) : List UInt8 := if p ∈ ws then [UInt8.ofNat (128 + ws.idxOf p)] else if 128 ≤ gb p 0 then [255, p.headD 0] else p
def codeTo (ws : List (List UInt8)) (bs : List UInt8) : Nat → List UInt8
  | 0 => []
  | k + 1 => codeTo ws bs k ++ codeP ws (pcP bs k)
def codeL (ws : List (List UInt8)) (bs : List UInt8) : List UInt8 := codeTo ws bs (piecesL bs).length
theorem pcP_length {bs : List UInt8} {k : Nat} (h : k < (piecesL bs).length) : (pcP bs k).length = plen (bs.drop (stP bs k)) := by
  unfold pcP
  rw [List.length_take]
  have := plen_le (pieces_ne h)
  omega
theorem pcP_ne {bs : List UInt8} {k : Nat} (h : k < (piecesL bs).length) : pcP bs k ≠ [] := fun e => by
  have := pcP_length h
  rw [e] at this
  have := plen_pos (bs.drop (stP bs k))
  simp at *
  omega
theorem pcP_gb {bs : List UInt8} {k i : Nat} (hi : i < plen (bs.drop (stP bs k))) : gb (pcP bs k) i = gb bs (stP bs k + i) := by
  unfold pcP; rw [gb_take _ _ _ hi, gb_drop]
theorem runL_all {p : List UInt8} (h : ∀ i, i < p.length → letterI (gb p i) = true) : runL p = p.length := runL_eq h (Nat.le_refl _) (fun h => absurd h (Nat.lt_irrefl _))
theorem pcP_kind {bs : List UInt8} {k : Nat} (h : k < (piecesL bs).length) :
    (wdP bs k = true ∧ runL (pcP bs k) = (pcP bs k).length) ∨ (wdP bs k = false ∧ ∃ b, pcP bs k = [b] ∧ isL b = false) := by
  have hl := pcP_length h
  rcases Nat.eq_zero_or_pos (runL (bs.drop (stP bs k))) with h0 | h0
  · right
    refine ⟨by simp [wdP, h0], ?_⟩
    have hp : plen (bs.drop (stP bs k)) = 1 := by unfold plen; omega
    rw [hp] at hl
    obtain ⟨b, hb⟩ := List.length_eq_one_iff.1 hl
    refine ⟨b, hb, ?_⟩
    have hne := pieces_ne h
    have hs := runL_stop (bs := bs.drop (stP bs k)) (by rw [h0]; exact List.length_pos_iff.2 hne)
    rw [h0, gb_drop, ← pcP_gb (i := 0) (by omega), hb] at hs
    exact hs
  · left
    refine ⟨by simpa [wdP] using h0, runL_all fun i hi => ?_⟩
    have hp : plen (bs.drop (stP bs k)) = runL (bs.drop (stP bs k)) := by unfold plen; omega
    rw [hl, hp] at hi
    rw [pcP_gb (by omega), ← gb_drop]
    exact runL_letter hi
theorem letterI_lt {x : Int} (h : letterI x = true) : x < 128 := by
  unfold letterI at h
  split at h
  · split at h
    · omega
    · split at h
      · simp at h; omega
      · cases h
  · split at h
    · simp at h; omega
    · cases h
theorem codeP_word {ws : List (List UInt8)} {p : List UInt8} (h : runL p = p.length) (hne : p ≠ []) : codeP ws p = if p ∈ ws then [UInt8.ofNat (128 + ws.idxOf p)] else p := by
  unfold codeP
  have hl : 0 < p.length := List.length_pos_iff.2 hne
  have := letterI_lt (runL_letter (bs := p) (k := 0) (by omega))
  rw [if_neg (c := 128 ≤ gb p 0) (by omega)]
theorem codeP_byte {ws : List (List UInt8)} (hw : ∀ s ∈ ws, isWordB s = true) (b : UInt8) : codeP ws [b] = if 128 ≤ (b.toNat : Int) then [255, b] else [b] := by
  unfold codeP
  rw [if_neg (fun h => by have := hw _ h; simp [isWordB] at this)]
  rfl
theorem codeP_len {ws : List (List UInt8)} {p : List UInt8} (h : p ≠ []) : (codeP ws p).length ≤ 2 * p.length := by
  have hl : 0 < p.length := List.length_pos_iff.2 h
  unfold codeP
  split
  · simp; omega
  · split
    · simp; omega
    · omega
theorem codeTo_len {ws : List (List UInt8)} {bs : List UInt8} : ∀ {k : Nat}, k ≤ (piecesL bs).length → (codeTo ws bs k).length ≤ 2 * stP bs k
  | 0, _ => by simp [codeTo]
  | k + 1, h => by
    rw [codeTo, List.length_append, stP]
    have h1 := codeTo_len (ws := ws) (bs := bs) (k := k) (by omega)
    have h2 := codeP_len (ws := ws) (pcP_ne (bs := bs) (k := k) (by omega))
    rw [pcP_length (by omega)] at h2
    omega
theorem codeL_len (ws : List (List UInt8)) (bs : List UInt8) : (codeL ws bs).length ≤ 2 * bs.length := by
  have := codeTo_len (ws := ws) (bs := bs) (Nat.le_refl _)
  rwa [pieces_end] at this
theorem cntS_count (ss : List (List UInt8)) (s : List UInt8) : ∀ k, k ≤ ss.length → cntS ss s k = (ss.take k).count s
  | 0, _ => by simp [cntS]
  | k + 1, h => by
    rw [cntS, cntS_count ss s k (by omega), List.take_succ_eq_append_getElem (by omega), List.count_append, gs_get (by omega)]
    simp [List.count_cons]
def gainS (ws : List (List UInt8)) (s : List UInt8) : Int := gainL (ws.count s) s.length
theorem gainS_cnt (ws : List (List UInt8)) (s : List UInt8) : gainL (cntS ws s ws.length) s.length = gainS ws s := by
  unfold gainS; rw [cntS_count _ _ _ (Nat.le_refl _), List.take_length]
def candP (ws : List (List UInt8)) (s : List UInt8) : Prop := isWordB s = true ∧ 0 < gainS ws s
def ahead (ws : List (List UInt8)) (x y : List UInt8) : Prop := gainS ws y < gainS ws x ∨ (gainS ws x = gainS ws y ∧ x < y)
theorem ahead_irrefl {ws : List (List UInt8)} {x : List UInt8} : ¬ ahead ws x x := by
  rintro (h | ⟨_, h⟩)
  · omega
  · exact List.lt_irrefl _ h
theorem ahead_trans {ws : List (List UInt8)} {x y z : List UInt8} (h : ahead ws x y) (h' : ahead ws y z) : ahead ws x z := by
  rcases h with h | ⟨e, h⟩ <;> rcases h' with h' | ⟨e', h'⟩
  · left; omega
  · left; omega
  · left; omega
  · right; exact ⟨by omega, List.lt_trans h h'⟩
theorem ahead_total {ws : List (List UInt8)} {x y : List UInt8} (h : x ≠ y) : ahead ws x y ∨ ahead ws y x := by
  rcases Int.lt_trichotomy (gainS ws x) (gainS ws y) with h1 | h1 | h1
  · right; left; exact h1
  · by_cases hxy : x < y
    · left; right; exact ⟨h1, hxy⟩
    · right; right
      refine ⟨h1.symm, ?_⟩
      rcases List.le_iff_lt_or_eq.1 (List.not_lt.1 hxy) with h2 | h2
      · exact h2
      · exact absurd h2.symm h
  · left; left; exact h1
def bestTo (ws out : List (List UInt8)) : Nat → List UInt8 × Int
  | 0 => ([], 0)
  | k + 1 =>
    if isWordB (gs ws k) = false ∨ gs ws k ∈ out then bestTo ws out k
    else if (bestTo ws out k).2 < gainS ws (gs ws k) ∨ (gainS ws (gs ws k) = (bestTo ws out k).2 ∧ 0 < gainS ws (gs ws k) ∧ gs ws k < (bestTo ws out k).1) then (gs ws k, gainS ws (gs ws k)) else bestTo ws out k
def learnSel (ws : List (List UInt8)) : Nat → List (List UInt8) → List (List UInt8)
  | 0, out => out
  | m + 1, out => if (bestTo ws out ws.length).2 ≤ 0 then out else learnSel ws m (out ++ [(bestTo ws out ws.length).1])
structure Best (ws out : List (List UInt8)) (k : Nat) : Prop where
  lo : 0 ≤ (bestTo ws out k).2
  mem : 0 < (bestTo ws out k).2 → (bestTo ws out k).1 ∈ ws ∧ candP ws (bestTo ws out k).1 ∧ (bestTo ws out k).1 ∉ out ∧ gainS ws (bestTo ws out k).1 = (bestTo ws out k).2
  all : ∀ j, j < k → isWordB (gs ws j) = true → gs ws j ∉ out → gainS ws (gs ws j) ≤ 0 ∨ (0 < (bestTo ws out k).2 ∧ (gs ws j = (bestTo ws out k).1 ∨ ahead ws (bestTo ws out k).1 (gs ws j)))
theorem best_any {ws out : List (List UInt8)} : ∀ {k : Nat}, k ≤ ws.length → Best ws out k
  | 0, _ => ⟨Int.le_refl _, fun h => absurd h (by simp [bestTo]), fun j hj => absurd hj (by omega)⟩
  | k + 1, hk => by
    have ih := best_any (ws := ws) (out := out) (k := k) (by omega)
    by_cases h1 : isWordB (gs ws k) = false ∨ gs ws k ∈ out
    · have e : bestTo ws out (k + 1) = bestTo ws out k := by rw [bestTo, if_pos h1]
      refine ⟨by rw [e]; exact ih.lo, by rw [e]; exact ih.mem, fun j hj a b => ?_⟩
      rw [e]
      rcases Nat.lt_succ_iff_lt_or_eq.1 hj with h | rfl
      · exact ih.all j h a b
      · rcases h1 with h1 | h1
        · rw [h1] at a; cases a
        · exact absurd h1 b
    · have h1' : isWordB (gs ws k) = true ∧ gs ws k ∉ out := by
        constructor
        · exact Bool.not_eq_false _ ▸ (fun h => h1 (.inl h))
        · exact fun h => h1 (.inr h)
      have hlo := ih.lo
      by_cases h2 : (bestTo ws out k).2 < gainS ws (gs ws k) ∨ (gainS ws (gs ws k) = (bestTo ws out k).2 ∧ 0 < gainS ws (gs ws k) ∧ gs ws k < (bestTo ws out k).1)
      · have e : bestTo ws out (k + 1) = (gs ws k, gainS ws (gs ws k)) := by rw [bestTo, if_neg h1, if_pos h2]
        have hpos : 0 < gainS ws (gs ws k) := by rcases h2 with h2 | h2 <;> omega
        refine ⟨by rw [e]; exact Int.le_of_lt hpos, fun _ => ?_, fun j hj a b => ?_⟩
        · rw [e]
          exact ⟨by rw [gs_get (by omega)]; exact List.getElem_mem _, ⟨h1'.1, hpos⟩, h1'.2, rfl⟩
        · rw [e]
          rcases Nat.lt_succ_iff_lt_or_eq.1 hj with h | rfl
          · rcases ih.all j h a b with h3 | ⟨h3, h4⟩
            · exact .inl h3
            · refine .inr ⟨hpos, .inr ?_⟩
              have hb := (ih.mem h3).2.2.2
              have hah : ahead ws (gs ws k) (bestTo ws out k).1 := by
                rcases h2 with h2 | ⟨h2, -, h5⟩
                · left; rw [hb]; exact h2
                · right; exact ⟨by rw [hb]; exact h2, h5⟩
              rcases h4 with h4 | h4
              · rw [h4]; exact hah
              · exact ahead_trans hah h4
          · exact .inr ⟨hpos, .inl rfl⟩
      · have e : bestTo ws out (k + 1) = bestTo ws out k := by rw [bestTo, if_neg h1, if_neg h2]
        refine ⟨by rw [e]; exact ih.lo, by rw [e]; exact ih.mem, fun j hj a b => ?_⟩
        rw [e]
        rcases Nat.lt_succ_iff_lt_or_eq.1 hj with h | rfl
        · exact ih.all j h a b
        · by_cases hg : gainS ws (gs ws j) ≤ 0
          · exact .inl hg
          · right
            have h3 : gainS ws (gs ws j) ≤ (bestTo ws out j).2 := by
              rcases Int.lt_or_le (bestTo ws out j).2 (gainS ws (gs ws j)) with h | h
              · exact absurd (.inl h) h2
              · exact h
            have hp : 0 < (bestTo ws out j).2 := by omega
            have hb := (ih.mem hp).2.2.2
            refine ⟨hp, ?_⟩
            by_cases he : gs ws j = (bestTo ws out j).1
            · exact .inl he
            · right
              rcases ahead_total (ws := ws) he with h4 | h4
              · exfalso
                rcases h4 with h4 | ⟨h4, h5⟩
                · omega
                · exact h2 (.inr ⟨by omega, by omega, h5⟩)
              · exact h4
structure Ranked (ws S : List (List UInt8)) : Prop where
  ord : S.Pairwise (ahead ws)
  mem : ∀ s, s ∈ S ↔ s ∈ ws ∧ candP ws s
theorem Ranked.take_not {ws S : List (List UInt8)} (h : Ranked ws S) {j i : Nat} (hi : i < S.length) : S[i] ∈ S.take j ↔ i < j := by
  constructor
  · intro hm
    obtain ⟨k, hk, e⟩ := List.mem_iff_getElem.1 hm
    rw [List.getElem_take] at e
    simp at hk
    rcases Nat.lt_trichotomy k i with h1 | h1 | h1
    · have := List.pairwise_iff_getElem.1 h.ord k i (by omega) hi h1
      rw [e] at this
      exact absurd this ahead_irrefl
    · omega
    · have := List.pairwise_iff_getElem.1 h.ord i k hi (by omega) h1
      rw [e] at this
      exact absurd this ahead_irrefl
  · intro hlt
    exact List.mem_iff_getElem.2 ⟨i, by simp; omega, by rw [List.getElem_take]⟩
theorem Ranked.best {ws S : List (List UInt8)} (h : Ranked ws S) (j : Nat) :
    (j < S.length → bestTo ws (S.take j) ws.length = (gs S j, gainS ws (gs S j)) ∧ 0 < gainS ws (gs S j)) ∧ (S.length ≤ j → (bestTo ws (S.take j) ws.length).2 ≤ 0) := by
  have B := best_any (ws := ws) (out := S.take j) (Nat.le_refl _)
  have hin : 0 < (bestTo ws (S.take j) ws.length).2 → ∃ i, ∃ hi : i < S.length, j ≤ i ∧ S[i] = (bestTo ws (S.take j) ws.length).1 := fun hp => by
    obtain ⟨m1, m2, m3, m4⟩ := B.mem hp
    obtain ⟨i, hi, e⟩ := List.mem_iff_getElem.1 ((h.mem _).2 ⟨m1, m2⟩)
    refine ⟨i, hi, ?_, e⟩
    rcases Nat.lt_or_ge i j with h1 | h1
    · exact absurd (by rw [← e]; exact (h.take_not hi).2 h1) m3
    · exact h1
  constructor
  · intro hj
    rw [gs_get hj]
    obtain ⟨m1, m2⟩ := (h.mem _).1 (List.getElem_mem hj)
    obtain ⟨a, ha, e⟩ := List.mem_iff_getElem.1 m1
    have hnot : S[j] ∉ S.take j := fun hm => absurd ((h.take_not hj).1 hm) (Nat.lt_irrefl _)
    have := B.all a ha (by rw [gs_get ha, e]; exact m2.1) (by rw [gs_get ha, e]; exact hnot)
    rw [gs_get ha, e] at this
    have hpos := m2.2
    rcases this with h1 | ⟨h1, h2⟩
    · omega
    · have hb := (B.mem h1).2.2.2
      have he : S[j] = (bestTo ws (S.take j) ws.length).1 := by
        rcases h2 with h2 | h2
        · exact h2
        · obtain ⟨i, hi, hji, e2⟩ := hin h1
          rcases Nat.lt_or_eq_of_le hji with h3 | h3
          · have := List.pairwise_iff_getElem.1 h.ord j i hj hi h3
            rw [e2] at this
            exact absurd (ahead_trans this h2) ahead_irrefl
          · subst h3; exact e2
      refine ⟨?_, hpos⟩
      rw [he, hb]
  · intro hj
    rcases Int.lt_or_le 0 (bestTo ws (S.take j) ws.length).2 with h1 | h1
    · obtain ⟨i, hi, hji, _⟩ := hin h1
      omega
    · exact h1
theorem Ranked.sel {ws S : List (List UInt8)} (h : Ranked ws S) : ∀ (m j : Nat), learnSel ws m (S.take j) = S.take (j + m)
  | 0, j => rfl
  | m + 1, j => by
    rw [learnSel]
    rcases Nat.lt_or_ge j S.length with hj | hj
    · obtain ⟨h1, h2⟩ := (h.best j).1 hj
      rw [h1]
      simp only
      rw [if_neg (by omega)]
      have : S.take j ++ [gs S j] = S.take (j + 1) := by rw [List.take_succ_eq_append_getElem hj, gs_get hj]
      rw [this, h.sel m (j + 1), Nat.add_right_comm, Nat.add_assoc]
    · rw [if_pos ((h.best j).2 hj), List.take_of_length_le hj, List.take_of_length_le (by omega)]
def learnL (bs : List UInt8) (most : Nat) : List (List UInt8) := learnSel (wordsL bs) most []
theorem Ranked.learn {bs : List UInt8} {S : List (List UInt8)} (h : Ranked (wordsL bs) S) (most : Nat) : S.take most = learnL bs most := by
  have := h.sel most 0
  rw [List.take_zero, Nat.zero_add] at this
  exact this.symm
theorem strB_get (s : List UInt8) (k : Nat) (h : k < (strB s).size) : (((strB s)[k]).toNat : Int) = gb s k := by
  have h' : k < s.length := by rwa [strB_size] at h
  simp [gb, List.getD, h']
  rfl
theorem allowed_any (s : List UInt8) (w : World) (hs : s.length ≤ 1000000000) :
    Calls Tryz.prog 138 #[.string (strB s)] w fun e w' => e = .returned (.bool (isWordB s)) ∧ w' = w := by
  have Hz := Lib.hid (strB_size s)
  have hsz : (strB s).size ≤ 1000000000 := by rw [Hz.out]; exact hs
  go_enter Tryz.func138, Tryz.ntmps138
  go_wp2
  go_loop [3, 6] (fun _ i => ∃ k : Nat, k ≤ (strB s).size ∧ i = .int .i64 k ∧ Hid (∀ j, j < k → letterI (gb s j) = true)) (fun _ i => (strB s).size - (intOf i).toNat)
  case atStart => exact ⟨0, Nat.zero_le _, rfl, fun j hj => absurd hj (by omega)⟩
  case round =>
    obtain ⟨k, hk, rfl, HK⟩ := hrel
    by_cases hlt : k < (strB s).size
    · have hg := strB_get s k hlt
      have hcal := letter_any ((((strB s)[k]).toNat : Int)) w
      by_cases he : letterI (gb s k) = true
      · rw [hg, he, ← hg] at hcal
        have Hcal := Lib.hid hcal; clear hcal
        have He := Lib.hid he; clear he hg
        go_wp2_with (go_at_call 204; refine Hcal.out.mono ?_; rintro e w1 ⟨rfl, hw1⟩; obtain rfl : w = w1 := hw1.symm)
        go_round
        case rel => exact ⟨k + 1, by omega, by go_num, fun j hj => by
          rcases Nat.lt_succ_iff_lt_or_eq.1 hj with h | h
          · exact HK.out j h
          · subst h; exact He.out⟩
        case measure => simp [intOf]; omega
      · have he' : letterI (gb s k) = false := by simpa using he
        rw [hg, he', ← hg] at hcal
        have Hcal := Lib.hid hcal; clear hcal
        have hfin : Hid (isWordB s = false) := by
          show _ = _
          have : runL s ≠ s.length := fun e => he (runL_letter (by rw [e, ← Hz.out]; exact hlt))
          simp [isWordB, this]
        clear he he' hg
        go_wp2_with (go_at_call 204; refine Hcal.out.mono ?_; rintro e w1 ⟨rfl, hw1⟩; obtain rfl : w = w1 := hw1.symm)
        go_ret
        exact ⟨ret_bool hfin.out.symm, rfl⟩
    · have hr : runL s = s.length := runL_all fun i hi => HK.out i (by have := Hz.out; omega)
      by_cases h1 : 2 ≤ (strB s).size
      · have d1 : decide ((2 : Int) ≤ ((strB s).size : Int)) = true := by simp; omega
        have hfin : Hid (decide (((strB s).size : Int) ≤ 32) = isWordB s) := by
          show _ = _
          have := Hz.out
          rw [this] at h1 ⊢
          simp [isWordB, hr, h1]; omega
        clear hr
        go_wp2
        go_ret
        exact ⟨ret_bool hfin.out, rfl⟩
      · have d1 : decide ((2 : Int) ≤ ((strB s).size : Int)) = false := by simp; omega
        have hfin : Hid (isWordB s = false) := by
          show _ = _
          have := Hz.out
          rw [this] at h1
          simp [isWordB, h1]
        clear hr
        go_wp2
        go_ret
        exact ⟨ret_bool hfin.out.symm, rfl⟩
theorem gainP_any (s : List UInt8) (k : Nat) (w : World) (hk : k ≤ 1000000000) (hs : s.length ≤ 1000000000) :
    Calls Tryz.prog 139 #[.string (strB s), .int .i64 (k : Int)] w fun e w' => e = .returned (.int .i64 (gainL k s.length)) ∧ w' = w := by
  have Hz := Lib.hid (strB_size s)
  have hz := Hz.out
  have hmul : (k : Int) * ((s.length : Int) - 1) ≤ 1000000000 * 1000000000 := by
    rcases Nat.eq_zero_or_pos s.length with h | h
    · rw [h]; omega
    · exact Int.mul_le_mul (by omega) (by omega) (by omega) (by omega)
  have hmul0 : -1000000000 ≤ (k : Int) * ((s.length : Int) - 1) := by
    rcases Nat.eq_zero_or_pos s.length with h | h
    · rw [h]; simp; omega
    · have : 0 ≤ (k : Int) * ((s.length : Int) - 1) := Int.mul_nonneg (by omega) (by omega)
      omega
  go_enter Tryz.func139, Tryz.ntmps139
  go_wp2
  go_ret
  exact ⟨rfl, rfl⟩
def fewB (ss : List (List UInt8)) : Bool := decide (ss.length ≤ 80) && ss.all (fun s => decide (s.length ≤ 100))
theorem tSS : Tryz.prog.underlying 77 = some (.slice (Tryz.prog.elem 77)) := by kernel_rfl
theorem eSS : Tryz.prog.elem 77 = 9 := by kernel_rfl
theorem sSS : ∀ W : World, (sizeOf 9).run Tryz.prog W = .ok 1 W := fun _ => by kernel_rfl
theorem gs_take (ss : List (List UInt8)) (m i : Nat) (hi : i < m) : gs (ss.take m) i = gs ss i := by simp [gs, List.getD, hi]
theorem Strs.cut_h {w : World} {A : Option Addr} {n c : Nat} {ss : List (List UInt8)} (hb : Strs w A n c ss) (h : Int) (h0 : 0 ≤ h) (hc : h ≤ n) :
    (∀ W : World, (Instr.slice 77 (.slice A n c) none (some (.int .i64 h)) none).run Tryz.prog W = .ok (.slice A h.toNat c) W) ∧ Strs w A h.toNat c (ss.take h.toNat) := by
  have hn := hb.2.1
  have hl := hb.1
  refine ⟨run_cut_h tSS eSS sSS h h0 (by omega), by simp; omega, by omega, fun hm => ?_⟩
  obtain ⟨b, off, hA, hbk, hcell⟩ := hb.2.2 (by omega)
  exact ⟨b, off, hA, hbk, fun i hi => by rw [hcell i (by omega)]; show some (Value.string _) = some (Value.string _); rw [gs_take _ _ _ hi]⟩
theorem placeL_ge (ss : List (List UInt8)) (s : List UInt8) : decide (0 ≤ placeL ss s) = decide (s ∈ ss) := by
  unfold placeL
  by_cases h : s ∈ ss
  · rw [if_pos (List.idxOf_lt_length_iff.2 h), decide_eq_true h, decide_eq_true (by omega)]
  · rw [if_neg (fun h' => h (List.idxOf_lt_length_iff.1 h')), decide_eq_false h, decide_eq_false (by omega)]
theorem checkR_any (A : Option Addr) (c n : Nat) (ss : List (List UInt8)) (w : World) (hx : Strs w A n c ss) (hn : n ≤ 1000000000) (hl : ∀ s ∈ ss, s.length ≤ 1000000000) :
    Calls Tryz.prog 173 #[.slice A n c] w fun e w' => e = .returned (.int .i64 ((checkL ss : Nat) : Int)) ∧ Below w.heap.size w w' := by
  have Hl := Lib.hid hx.1
  by_cases h64 : n ≤ 64
  · have d0 : decide ((64 : Int) < (n : Int)) = false := by simp; omega
    have hce : Hid (checkL ss = checkTo ss n) := by show _ = _; unfold checkL; rw [if_neg (by rw [Hl.out]; omega), Hl.out]
    go_enter Tryz.func173, Tryz.ntmps173
    go_wp2_with fail
    go_loopw [3] (fun i wr => ∃ k : Nat, k ≤ n ∧ i = .int .i64 k ∧ Hid (checkTo ss k = 0) ∧ Below w.heap.size w wr) (fun i _ => n - (intOf i).toNat)
    case atStart => exact ⟨0, Nat.zero_le _, rfl, rfl, Below.refl _ _⟩
    case round =>
      obtain ⟨k, hk, rfl, HK, hbel⟩ := hrel
      have hxr := hx.below hbel
      by_cases hlt : k < n
      · have hlk : (gs ss k).length ≤ 1000000000 := by rw [gs_get (by rw [Hl.out]; exact hlt)]; exact hl _ (List.getElem_mem _)
        obtain ⟨r1, v1⟩ := hxr.cut_h (k : Int) (by omega) (by omega)
        rw [Int.toNat_natCast] at r1 v1
        obtain ⟨b, off, rfl, hb, hc⟩ := hxr.get hlt
        have h1 := hc k hlt
        clear hc
        have hcal := isWord_any (gs ss k) wr hlk
        by_cases hw : isWordB (gs ss k) = true
        · rw [hw] at hcal
          have Hcal := Lib.hid hcal; clear hcal
          go_wp2_with fail
          refine Hcal.out.mono ?_
          rintro e w1 ⟨rfl, hb1⟩
          have h2 := hb1.cell (p := ⟨b, off + k, none⟩) hb
          rw [h1] at h2
          have hpl := fun q => place_any _ _ _ _ (gs ss k) _ ((v1.below hb1).drewN q) (by omega)
          have Hpl := Lib.hid hpl; clear hpl
          have k1 : (k : Int) < (n : Int) := by omega
          have dpl := placeL_ge (ss.take k) (gs ss k)
          by_cases hm : gs ss k ∈ ss.take k
          · rw [decide_eq_true hm] at dpl
            have hfin : Hid (checkL ss = 8) := by
              show _ = _
              have hbad : badAt ss k = 8 := by unfold badAt; rw [if_neg (by rw [hw]; simp), if_pos hm]
              rw [hce.out, checkTo_stop HK.out (by rw [hbad]; omega) n hlt, hbad]
            clear hw hm h1 Hcal
            go_wp2_with fail
            go_quiet (first | (go_at_call 176; exact Calls.quiet_of_same (Hpl.out _)))
            go_wp2_with fail
            go_ret
            exact ⟨ret_int (by rw [hfin.out]; rfl), bdrew (hbel.trans (hb1.mono hbel.size)) _⟩
          · rw [decide_eq_false hm] at dpl
            have hnext : Hid (checkTo ss (k + 1) = 0) := by
              show _ = _
              rw [checkTo, if_pos HK.out]
              exact badAt_zero.2 ⟨hw, hm⟩
            clear hw hm h1 Hcal
            go_wp2_with fail
            go_quiet (first | (go_at_call 176; exact Calls.quiet_of_same (Hpl.out _)))
            go_wp2_with fail
            go_roundw
            case rel => exact ⟨k + 1, by omega, by go_num, hnext, bdrew (hbel.trans (hb1.mono hbel.size)) _⟩
            case measure => simp [intOf]; omega
        · have hw' : isWordB (gs ss k) = false := by simpa using hw
          rw [hw'] at hcal
          have Hcal := Lib.hid hcal; clear hcal
          have hfin : Hid (checkL ss = 24) := by
            show _ = _
            have hbad : badAt ss k = 24 := by unfold badAt; rw [if_pos hw']
            rw [hce.out, checkTo_stop HK.out (by rw [hbad]; omega) n hlt, hbad]
          clear hw hw'
          go_wp2_with fail
          refine Hcal.out.mono ?_
          rintro e w1 ⟨rfl, hb1⟩
          go_wp2_with fail
          go_ret
          exact ⟨ret_int (by rw [hfin.out]; rfl), hbel.trans (hb1.mono hbel.size)⟩
      · have hfin : Hid (checkL ss = 0) := by
          show _ = _
          obtain rfl : k = n := by omega
          rw [hce.out]; exact HK.out
        go_wp2_with fail
        go_ret
        exact ⟨ret_int (by rw [hfin.out]; rfl), hbel⟩
  · have d0 : decide ((64 : Int) < (n : Int)) = true := by simp; omega
    have hfin : Hid (checkL ss = 6) := by show _ = _; unfold checkL; rw [if_pos (by rw [Hl.out]; omega)]
    go_enter Tryz.func173, Tryz.ntmps173
    go_wp2_with fail
    go_ret
    exact ⟨ret_int (by rw [hfin.out]; rfl), Below.refl _ _⟩
end Go.Proofs.YtohadkmaemmfgaaGreatDoor.Dic
