/- slices.Equal at strings, bytes.Equal; the examples of the chapter (awake). -/
import Derived.Test.YtdebhdopginllaaDoorDu
import Derived.Lib.SlBytesConst
namespace Go.Proofs.YtdebhdopginllaaDoor
open Go.RowKit Go.Proofs Go.Sort
set_option linter.unusedVariables false

set_option maxHeartbeats 400000 in
theorem equalB_any (A B : Option Addr) (c d n m : Nat) (xs ys : List UInt8) (w : World) (hx : Bytes w A n c xs) (hy : Bytes w B m d ys) :
    Calls Tryd.prog 14 #[.slice A n c, .slice B m d] w fun e w' => e = .returned (.bool (decide (xs = ys))) ∧ w' = w := by
  have r2 := hx.str 22 5 9 uB u8 uS
  have r3 := hy.str 22 5 9 uB u8 uS
  have hfin : Hid (((strB xs).toList == (strB ys).toList) = decide (xs = ys)) := strB_beq _ _
  go_enter Tryd.func14, Tryd.ntmps14
  go_wp2_with fail
  go_ret
  exact ⟨ret_bool hfin.out, rfl⟩

set_option maxHeartbeats 400000 in
theorem equalS_any (A B : Option Addr) (c d n m : Nat) (xs ys : List (List UInt8)) (w : World) (hx : Strs w A n c xs) (hy : Strs w B m d ys) (hn : n ≤ 1000000000) (hm : m ≤ 1000000000) :
    Calls Tryd.prog 8 #[.slice A n c, .slice B m d] w fun e w' => e = .returned (.bool (decide (xs = ys))) ∧ Drawn w w' := by
  obtain ⟨hxl, -, hxc⟩ := hx
  obtain ⟨hyl, -, hyc⟩ := hy
  by_cases hl : n = m
  · subst hl
    have hne : ((n : Int) != (n : Int)) = false := by simp
    have Hx := Lib.hid hxl; clear hxl
    have Hy := Lib.hid hyl; clear hyl
    go_enter Tryd.func8, Tryd.ntmps8
    go_wp2
    go_loopw [5, 13] (fun _ i wr => ∃ k : Nat, k ≤ n ∧ i = .int .i64 k ∧ Hid (∀ j, j < k → gs xs j = gs ys j) ∧ ∃ q, wr = w.drewN q) (fun _ i _ => n - (intOf i).toNat)
    case atStart => exact ⟨0, Nat.zero_le _, rfl, fun j hj => absurd hj (by omega), 0, rfl⟩
    case round =>
      obtain ⟨k, hk, rfl, HK, q, rfl⟩ := hrel
      by_cases hlt : k < n
      · obtain ⟨b, off, rfl, hb, hc⟩ := hxc.get hlt
        obtain ⟨b', off', rfl, hb', hc'⟩ := hyc.get hlt
        have h1 := hc k hlt
        have h2 := hc' k hlt
        have k1 : (k : Int) < (n : Int) := by omega
        clear hc hc' hxc hyc
        by_cases he : gs xs k = gs ys k
        · have hd : ((strB (gs xs k)).toList == (strB (gs ys k)).toList) = true := by rw [strB_beq]; exact decide_eq_true he
          have He := Lib.hid he
          clear he
          go_wp2
          go_quiet (fail)
          go_wp2
          go_roundw
          case rel => exact ⟨k + 1, by omega, by go_num, fun j hj => by
            rcases Nat.lt_succ_iff_lt_or_eq.1 hj with h | h
            · exact HK.out j h
            · subst h; exact He.out, _, rfl⟩
          case measure => simp [intOf]; omega
        · have hd : ((strB (gs xs k)).toList == (strB (gs ys k)).toList) = false := by rw [strB_beq]; exact decide_eq_false he
          have hfin : Hid (decide (xs = ys) = false) := decide_eq_false (fun e => he (by rw [e]))
          clear he
          go_wp2
          go_quiet (fail)
          go_wp2
          go_ret
          exact ⟨ret_bool hfin.out.symm, Drawn.step ⟨q, rfl⟩ _⟩
      · have hfin : Hid (decide (xs = ys) = true) := decide_eq_true (gs_ext (Hx.out.trans Hy.out.symm) (fun i hi => HK.out i (by have := Hx.out; omega)))
        go_wp2
        go_ret
        exact ⟨ret_bool hfin.out.symm, _, rfl⟩
  · have hne : ((n : Int) != (m : Int)) = true := by simp; omega
    have hfin : Hid (decide (xs = ys) = false) := decide_eq_false (fun e => hl (by rw [← hxl, ← hyl, e]))
    go_enter Tryd.func8, Tryd.ntmps8
    go_wp2
    go_ret
    exact ⟨ret_bool hfin.out.symm, 0, rfl⟩

theorem lit_bytes (w : World) (e : TypeId) (fr : Nat × Nat) (bs : List UInt8) (n : Nat) (hn : bs.length = n) : Bytes (w.alloc (.cells (bs.map fun b => Value.int .u8 (b.toNat : Int)).toArray e fr)) (some ⟨w.heap.size, 0, none⟩) n n bs := by
  subst hn
  refine ⟨rfl, Nat.le_refl _, fun _ => ⟨w.heap.size, 0, rfl, by simp, fun i hi => ?_⟩⟩
  rw [Nat.zero_add, World.cell?_alloc_mark]
  simp [gb, List.getD, hi]
theorem lit_strs (w : World) (e : TypeId) (fr : Nat × Nat) (ss : List (List UInt8)) (n : Nat) (hn : ss.length = n) : Strs (w.alloc (.cells (ss.map encS).toArray e fr)) (some ⟨w.heap.size, 0, none⟩) n n ss := by
  subst hn
  refine ⟨rfl, Nat.le_refl _, fun _ => ⟨w.heap.size, 0, rfl, by simp, fun i hi => ?_⟩⟩
  rw [Nat.zero_add, World.cell?_alloc_mark]
  simp [gs, List.getD, hi, encS]
theorem balloc {w w1 : World} (h : Below w.heap.size w w1) (o : Obj) : Below w.heap.size w (w1.alloc o) := h.alloc h.size o

def exT : List UInt8 := [116, 104, 101, 32, 99, 97, 116, 44, 32, 116, 104, 101, 32, 104, 97, 116, 44, 32, 116, 104, 101, 32, 101, 110, 100]
def exC : List UInt8 := [128, 32, 99, 97, 116, 44, 32, 128, 32, 104, 97, 116, 44, 32, 128, 32, 101, 110, 100]
def exF : List UInt8 := [1, 3, 116, 104, 101, 128, 32, 99, 97, 116, 44, 32, 128, 32, 104, 97, 116, 44, 32, 128, 32, 101, 110, 100]
theorem ex1 : learnR exT 10 = ([[116, 104, 101]], 0) := by decide +kernel
theorem ex2 : codeR [[116, 104, 101]] exT = (exC, 0) := by decide +kernel
theorem ex3 : forwardL exT = exF := by decide +kernel
theorem ex4 : codeR [] [200] = ([255, 200], 0) := by decide +kernel

set_option maxRecDepth 100000 in
set_option maxHeartbeats 2000000 in
theorem awake_any (w : World) : Calls Tryd.prog 5 #[] w fun e w' => e = .returned (.bool true) ∧ Below w.heap.size w w' := by
  have kc := fun (w : World) (C : Array Value) (n c : Nat) => Lib.run_convert_bytes_const (P := Tryd.prog) w 22 5 C n c uB u8
  go_enter Tryd.func5, Tryd.ntmps5
  go_wp2_with fail
  have hx0 : Bytes (w.alloc (.cells #[.int .u8 116, .int .u8 104, .int .u8 101, .int .u8 32, .int .u8 99, .int .u8 97, .int .u8 116, .int .u8 44, .int .u8 32, .int .u8 116, .int .u8 104, .int .u8 101, .int .u8 32, .int .u8 104, .int .u8 97, .int .u8 116, .int .u8 44, .int .u8 32, .int .u8 116, .int .u8 104, .int .u8 101, .int .u8 32, .int .u8 101, .int .u8 110, .int .u8 100] 5 (25, 26))) (some ⟨w.heap.size, 0, none⟩) 25 25 exT := lit_bytes w _ _ exT 25 rfl
  have hb0 : Below w.heap.size w (w.alloc (.cells #[.int .u8 116, .int .u8 104, .int .u8 101, .int .u8 32, .int .u8 99, .int .u8 97, .int .u8 116, .int .u8 44, .int .u8 32, .int .u8 116, .int .u8 104, .int .u8 101, .int .u8 32, .int .u8 104, .int .u8 97, .int .u8 116, .int .u8 44, .int .u8 32, .int .u8 116, .int .u8 104, .int .u8 101, .int .u8 32, .int .u8 101, .int .u8 110, .int .u8 100] 5 (25, 26))) := balloc (Below.refl _ _) _
  have h1 := learnP_any _ _ _ _ 10 _ hx0 (by omega) (by omega)
  rw [ex1] at h1
  refine h1.mono ?_
  rintro e w1 ⟨A1, n1, c1, rfl, hs1, hb1⟩
  obtain rfl : n1 = 1 := hs1.1.symm
  have hx1 := hx0.below hb1
  have hb1' := hb0.trans (hb1.mono hb0.size)
  clear h1 hx0 hb0 hb1 kc
  have h2 := codeP_any A1 _ c1 _ 1 25 _ _ w1 hs1 hx1 (by omega) (fun s hs => by simp at hs; subst hs; simp) (by omega)
  rw [ex2] at h2
  have H2 := Lib.hid h2; clear h2
  go_wp2_with fail
  refine H2.out.mono ?_
  rintro e w2 ⟨A2, n2, c2, rfl, hs2, hb2⟩
  obtain rfl : n2 = 19 := hs2.1.symm
  have hx2 := hx1.below hb2
  have ho2 := hs1.below hb2
  have hb2' := hb1'.trans (hb2.mono hb1'.size)
  clear H2 hx1 hs1 hb1' hb2
  have h3 := forwardP_any _ _ _ _ w2 hx2 (by omega)
  rw [ex3] at h3
  have H3 := Lib.hid h3; clear h3
  go_wp2_with fail
  refine H3.out.mono ?_
  rintro e w3 ⟨A3, n3, c3, rfl, hs3, hb3⟩
  obtain rfl : n3 = 24 := hs3.1.symm
  have ho3 := ho2.below hb3
  have hc3 := hs2.below hb3
  have hb3' := hb2'.trans (hb3.mono hb2'.size)
  clear H3 hx2 ho2 hs2 hb2' hb3
  have hx4 : Bytes (w3.alloc (.cells #[.int .u8 200] 5)) (some ⟨w3.heap.size, 0, none⟩) 1 1 [200] := lit_bytes w3 _ _ [200] 1 rfl
  have hb4 : Below w3.heap.size w3 (w3.alloc (.cells #[.int .u8 200] 5)) := balloc (Below.refl _ _) _
  have h4 := codeP_any none _ 0 _ 0 1 [] _ _ (Strs.nil _ 0) hx4 (by omega) (fun s hs => by cases hs) (by omega)
  rw [ex4] at h4
  have H4 := Lib.hid h4; clear h4
  go_wp2_with fail
  refine H4.out.mono ?_
  rintro e w4 ⟨A4, n4, c4, rfl, hs4, hb4a⟩
  obtain rfl : n4 = 2 := hs4.1.symm
  have hb4b : Below w3.heap.size w3 w4 := hb4.trans (hb4a.mono hb4.size)
  have ho4 := ho3.below hb4b
  have hc4 := hc3.below hb4b
  have hf4 := hs3.below hb4b
  have hb4' := hb3'.trans (hb4b.mono hb3'.size)
  clear H4 ho3 hc3 hs3 hb3' hb4 hb4a hb4b hx4
  have hl5 : Strs (w4.alloc (.cells #[.string ⟨#[116, 104, 101]⟩] 9)) (some ⟨w4.heap.size, 0, none⟩) 1 1 [[116, 104, 101]] := lit_strs w4 _ _ [[116, 104, 101]] 1 rfl
  have hb5 : Below w4.heap.size w4 (w4.alloc (.cells #[.string ⟨#[116, 104, 101]⟩] 9)) := balloc (Below.refl _ _) _
  have h5 := equalS_any _ _ _ _ _ _ _ _ _ (ho4.below hb5) hl5 (by omega) (by omega)
  rw [decide_eq_true rfl] at h5
  have H5 := Lib.hid h5; clear h5
  go_wp2_with fail
  refine H5.out.mono ?_
  rintro e w5 ⟨rfl, hd5⟩
  have hb5b : Below w4.heap.size w4 w5 := hb5.trans (hd5.below _)
  have hc5 := hc4.below hb5b
  have hf5 := hf4.below hb5b
  have hd5' := hs4.below hb5b
  have hb5' := hb4'.trans (hb5b.mono hb4'.size)
  clear H5 ho4 hc4 hf4 hs4 hb4' hb5 hd5 hb5b hl5
  have hl6 : Bytes (w5.alloc (.cells #[.int .u8 255, .int .u8 200] 5)) (some ⟨w5.heap.size, 0, none⟩) 2 2 [255, 200] := lit_bytes w5 _ _ [255, 200] 2 rfl
  have hb6 : Below w5.heap.size w5 (w5.alloc (.cells #[.int .u8 255, .int .u8 200] 5)) := balloc (Below.refl _ _) _
  have h6 := equalB_any _ _ _ _ _ _ _ _ _ (hd5'.below hb6) hl6
  rw [decide_eq_true rfl] at h6
  have H6 := Lib.hid h6; clear h6
  have hc6 := hc5.below hb6
  have hf6 := hf5.below hb6
  have s7 := hc6.str 22 5 9 uB Go.Proofs.YtdebhdopginllaaDoor.u8 uS
  obtain ⟨r8, v8⟩ := hf6.cut_h tB eB sB (5 : Int) (by omega) (by omega)
  have s8 := v8.str 22 5 9 uB Go.Proofs.YtdebhdopginllaaDoor.u8 uS
  rw [show (5 : Int).toNat = 5 from rfl] at r8 s8
  have e7 : strB exC = ⟨#[128, 32, 99, 97, 116, 44, 32, 128, 32, 104, 97, 116, 44, 32, 128, 32, 101, 110, 100]⟩ := rfl
  have e8 : strB (exF.take 5) = ⟨#[1, 3, 116, 104, 101]⟩ := rfl
  rw [e7] at s7
  rw [e8] at s8
  clear e7 e8 v8
  go_wp2_with fail
  refine H6.out.mono ?_
  rintro e w7 ⟨rfl, hw7⟩
  have Hw7 := Lib.hid hw7
  have hb7 := hb5'.trans (hb6.mono hb5'.size)
  obtain rfl := hw7
  go_wp2_with fail
  go_ret
  exact ⟨rfl, hb7⟩
end Go.Proofs.YtdebhdopginllaaDoor
