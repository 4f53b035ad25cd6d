/- The walks of the laws SuffixSorts, SuffixChecks, SuffixFinds. -/
import Derived.Test.YtkndcbnajkiceaaWn
import Derived.Test.YtkndcbnajkiceaaWc
import Derived.OpenShut
namespace Go.Proofs.Ytkndcbnajkiceaa
open Go.RowKit Go.Proofs
set_option linter.unusedVariables false

theorem cell_lt {w : World} {a : Addr} {v : Value} (h : w.cell? a = some v) : a.block < w.heap.size := by
  rcases Nat.lt_or_ge a.block w.heap.size with hlt | hge
  · exact hlt
  · exfalso
    have e : w.heap[a.block]? = none := Array.getElem?_eq_none hge
    simp [World.cell?, e] at h
theorem cells_of_row {k : IntKind} {w : World} {a : Option Addr} {len cap : Nat} {zs : List Int} (h : (a = none ∧ len = 0 ∧ cap = 0 ∧ zs = []) ∨
    ∃ x, a = some x ∧ len ≤ cap ∧ cap ≤ maxLen ∧ zs.length = cap ∧ (∀ i, i < zs.length → w.cell? (x.add i) = some (.int k (zs.getD i 0))) ∧ ∀ n ∈ zs, (Lit.int k n).wf = true) :
    (zs.take len).length = len ∧ len ≤ cap ∧ (∀ n ∈ zs, (Lit.int k n).wf = true) ∧ Cells w a len (fun i => .int k (gi zs i)) := by
  rcases h with ⟨rfl, rfl, rfl, rfl⟩ | ⟨x, rfl, h1, h2, h3, h4, h5⟩
  · exact ⟨rfl, Nat.le_refl _, fun n hn => by simp at hn, fun h => absurd h (by omega)⟩
  · refine ⟨by simp; omega, h1, h5, fun hn => ?_⟩
    have h0 := h4 0 (by omega)
    obtain ⟨b, off, sp⟩ := x
    have hsp : sp = none := by
      have := World.cell?_spot h0
      simpa [Addr.add] using this
    subst hsp
    refine ⟨b, off, rfl, ?_, fun i hi => ?_⟩
    · have := cell_lt h0
      rwa [addr_add] at this
    · rw [← addr_add]
      exact h4 i (by omega)
theorem bytes_of_row {w : World} {a : Option Addr} {len cap : Nat} {zs : List Int} (h : (a = none ∧ len = 0 ∧ cap = 0 ∧ zs = []) ∨
    ∃ x, a = some x ∧ len ≤ cap ∧ cap ≤ maxLen ∧ zs.length = cap ∧ (∀ i, i < zs.length → w.cell? (x.add i) = some (.int .u8 (zs.getD i 0))) ∧ ∀ n ∈ zs, (Lit.int .u8 n).wf = true) : ∃ bs, Bytes w a len cap bs := by
  obtain ⟨h1, h2, h3, h4⟩ := cells_of_row h
  refine ⟨(zs.take len).map fun z => UInt8.ofNat z.toNat, by rw [List.length_map]; exact h1, h2, fun hn => ?_⟩
  obtain ⟨b, off, hA, hb, hc⟩ := h4 hn
  refine ⟨b, off, hA, hb, fun i hi => ?_⟩
  rw [hc i hi]
  have hl : i < zs.length := by simp at h1; omega
  have hw := bounds_u8 (h3 (gi zs i) (gi_mem hl))
  have e : gb ((zs.take len).map fun z => UInt8.ofNat z.toNat) i = gi zs i := by
    unfold gb
    have hi' : i < (zs.take len).length := by omega
    have e1 : ((zs.take len).map fun z => UInt8.ofNat z.toNat).getD i 0 = UInt8.ofNat (gi zs i).toNat := by
      simp [List.getD, hi, hl, gi]
    rw [e1, UInt8.toNat_ofNat']
    omega
  show some (Value.int .u8 _) = some (Value.int .u8 _)
  rw [e]
theorem ints_of_row {w : World} {a : Option Addr} {len cap : Nat} {zs : List Int} (h : (a = none ∧ len = 0 ∧ cap = 0 ∧ zs = []) ∨
    ∃ x, a = some x ∧ len ≤ cap ∧ cap ≤ maxLen ∧ zs.length = cap ∧ (∀ i, i < zs.length → w.cell? (x.add i) = some (.int .i64 (zs.getD i 0))) ∧ ∀ n ∈ zs, (Lit.int .i64 n).wf = true) : ∃ ys, Ints w a len cap ys := by
  obtain ⟨h1, h2, h3, h4⟩ := cells_of_row h
  refine ⟨zs.take len, h1, h2, fun hn => ?_⟩
  obtain ⟨b, off, hA, hb, hc⟩ := h4 hn
  refine ⟨b, off, hA, hb, fun i hi => ?_⟩
  rw [hc i hi]
  show some (Value.int .i64 _) = some (Value.int .i64 _)
  rw [gi_take _ _ _ hi]

set_option maxHeartbeats 1000000 in
theorem suffixSorts_any (A : Option Addr) (c n : Nat) (bs : List UInt8) (w : World) (hx : Bytes w A n c bs) :
    Calls Try.prog 3 #[.slice A n c] w fun e w' => e = .returned (.bool true) ∧ Below w.heap.size w w' := by
  by_cases hn : 300 < n
  · have d0 : decide ((300 : Int) < (n : Int)) = true := by simp; omega
    go_enter Try.func3, Try.ntmps3
    go_wp2_with fail
    refine (awake_any _).mono ?_
    rintro e w1 ⟨rfl, hb1⟩
    go_wp2_with fail
    go_ret
    exact ⟨rfl, hb1⟩
  · have d0 : decide ((300 : Int) < (n : Int)) = false := by simp; omega
    have Hx := Lib.hid hx.1
    have h1 := sort_any A c n bs w hx (by omega)
    have H1 := Lib.hid h1; clear h1
    go_enter Try.func3, Try.ntmps3
    go_wp2_with fail
    refine H1.out.mono ?_
    rintro e w1 ⟨A1, n1, c1, rfl, hs1, hb1⟩
    have hl1 := hs1.1
    rw [sortL_length, Hx.out] at hl1
    subst hl1
    have h2 := refSort_any A c n bs w1 (hx.below hb1) (by omega)
    have H2 := Lib.hid h2; clear h2
    go_wp2_with fail
    refine H2.out.mono ?_
    rintro e w2 ⟨A2, n2, c2, rfl, hs2, hb2⟩
    have hl2 := hs2.1
    rw [sortL_length, Hx.out] at hl2
    subst hl2
    have hb2' := hb1.trans (hb2.mono hb1.size)
    have hs1' := hs1.below hb2
    go_wp2_with fail
    refine (awake_any _).mono ?_
    rintro e w3 ⟨rfl, hb3⟩
    have hb3' := hb2'.trans (hb3.mono hb2'.size)
    have h4 := same_any _ _ _ _ _ _ _ _ _ (hs1'.below hb3) (hs2.below hb3) (by omega) (by omega)
    rw [decide_eq_true rfl] at h4
    have H4 := Lib.hid h4; clear h4
    go_wp2_with fail
    refine H4.out.mono ?_
    rintro e w4 ⟨rfl, hd4⟩
    go_wp2_with fail
    go_ret
    exact ⟨rfl, hb3'.trans (hd4.below _)⟩

set_option maxHeartbeats 1000000 in
theorem suffixChecks_any (A B : Option Addr) (c n d m : Nat) (bs : List UInt8) (zs : List Int) (w : World) (hx : Bytes w A n c bs) (hy : Ints w B m d zs) :
    Calls Try.prog 4 #[.slice A n c, .slice B m d] w fun e w' => e = .returned (.bool true) ∧ Below w.heap.size w w' := by
  by_cases hn : 300 < n
  · have d0 : decide ((300 : Int) < (n : Int)) = true := by simp; omega
    go_enter Try.func4, Try.ntmps4
    go_wp2_with fail
    refine (awake_any _).mono ?_
    rintro e w1 ⟨rfl, hb1⟩
    go_wp2_with fail
    go_ret
    exact ⟨rfl, hb1⟩
  · have d0 : decide ((300 : Int) < (n : Int)) = false := by simp; omega
    by_cases hm : 400 < m
    · have d1 : decide ((400 : Int) < (m : Int)) = true := by simp; omega
      go_enter Try.func4, Try.ntmps4
      go_wp2_with fail
      refine (awake_any _).mono ?_
      rintro e w1 ⟨rfl, hb1⟩
      go_wp2_with fail
      go_ret
      exact ⟨rfl, hb1⟩
    · have d1 : decide ((400 : Int) < (m : Int)) = false := by simp; omega
      have h1 := ranks_any B d m zs w hy (by omega)
      have H1 := Lib.hid h1; clear h1
      have hlr : (ranksOut zs).length ≤ 400 := by
        unfold ranksOut
        split
        · simp [ranksL]; have := hy.1; omega
        · simp
      go_enter Try.func4, Try.ntmps4
      go_wp2_with fail
      refine H1.out.mono ?_
      rintro e w1 ⟨A1, n1, c1, rfl, hs1, hb1⟩
      have h2 := refRanks_any B d m zs w1 (hy.below hb1) (by omega)
      have H2 := Lib.hid h2; clear h2
      go_wp2_with fail
      refine H2.out.mono ?_
      rintro e w2 ⟨A2, n2, c2, rfl, hs2, hb2⟩
      have hb2' := hb1.trans (hb2.mono hb1.size)
      have hs1' := hs1.below hb2
      have b1 : n1 ≤ 400 := by have := hs1.1; omega
      have b2 : n2 ≤ 400 := by have := hs2.1; omega
      clear hlr
      go_wp2_with fail
      refine (awake_any _).mono ?_
      rintro e w3 ⟨rfl, hb3⟩
      have hb3' := hb2'.trans (hb3.mono hb2'.size)
      have h4 := check_any A B c n d m bs zs w3 (hx.below hb3') (hy.below hb3') (by omega) (by omega)
      have H4 := Lib.hid h4; clear h4
      go_wp2_with fail
      refine H4.out.mono ?_
      rintro e w4 ⟨rfl, hb4⟩
      have hb4' := hb3'.trans (hb4.mono hb3'.size)
      have h5 := refCheck_any A B c n d m bs zs w4 (hx.below hb4') (hy.below hb4') (by omega) (by omega)
      have H5 := Lib.hid h5; clear h5
      go_wp2_with fail
      refine H5.out.mono ?_
      rintro e w5 ⟨rfl, hb5⟩
      have hb5' := hb4'.trans (hb5.mono hb4'.size)
      have d2 : (checkErr bs zs == checkErr bs zs) = true := by simp
      have d3 : (ranksErr zs == ranksErr zs) = true := by simp
      have h6 := same_any _ _ _ _ _ _ _ _ _ (((hs1'.below hb3).below hb4).below hb5) (((hs2.below hb3).below hb4).below hb5) (by omega) (by omega)
      rw [decide_eq_true rfl] at h6
      have H6 := Lib.hid h6; clear h6
      go_wp2_with fail
      refine H6.out.mono ?_
      rintro e w6 ⟨rfl, hd6⟩
      go_wp2_with fail
      go_ret
      exact ⟨rfl, hb5'.trans (hd6.below _)⟩

set_option maxRecDepth 100000 in
set_option maxHeartbeats 1000000 in
theorem suffixFinds_any (A B C : Option Addr) (c n d m f l : Nat) (bs : List UInt8) (zs : List Int) (pat : List UInt8) (w : World) (hx : Bytes w A n c bs) (hy : Ints w B m d zs) (hq : Bytes w C l f pat) :
    Calls Try.prog 5 #[.slice A n c, .slice B m d, .slice C l f] w fun e w' => e = .returned (.bool true) ∧ Below w.heap.size w w' := by
  by_cases hn : 300 < n
  · have d0 : decide ((300 : Int) < (n : Int)) = true := by simp; omega
    go_enter Try.func5, Try.ntmps5
    go_wp2_with fail
    refine (awake_any _).mono ?_
    rintro e w1 ⟨rfl, hb1⟩
    go_wp2_with fail
    go_ret
    exact ⟨rfl, hb1⟩
  · have d0 : decide ((300 : Int) < (n : Int)) = false := by simp; omega
    by_cases hm : 400 < m
    · have d1 : decide ((400 : Int) < (m : Int)) = true := by simp; omega
      go_enter Try.func5, Try.ntmps5
      go_wp2_with fail
      refine (awake_any _).mono ?_
      rintro e w1 ⟨rfl, hb1⟩
      go_wp2_with fail
      go_ret
      exact ⟨rfl, hb1⟩
    · have d1 : decide ((400 : Int) < (m : Int)) = false := by simp; omega
      by_cases hl : 300 < l
      · have d2 : decide ((300 : Int) < (l : Int)) = true := by simp; omega
        go_enter Try.func5, Try.ntmps5
        go_wp2_with fail
        refine (awake_any _).mono ?_
        rintro e w1 ⟨rfl, hb1⟩
        go_wp2_with fail
        go_ret
        exact ⟨rfl, hb1⟩
      · have d2 : decide ((300 : Int) < (l : Int)) = false := by simp; omega
        have h1 := common2_any A B c n d m bs zs w hx hy (by omega) (by omega)
        have H1 := Lib.hid h1; clear h1
        have hlr : (commonOut bs zs).length ≤ 400 := by
          unfold commonOut
          split
          · rw [commonL, commonTo_length]; have := hy.1; omega
          · simp
        go_enter Try.func5, Try.ntmps5
        go_wp2_with fail
        refine H1.out.mono ?_
        rintro e w1 ⟨A1, n1, c1, rfl, hs1, hb1⟩
        have h2 := refCommon_any A B c n d m bs zs w1 (hx.below hb1) (hy.below hb1) (by omega) (by omega)
        have H2 := Lib.hid h2; clear h2
        go_wp2_with fail
        refine H2.out.mono ?_
        rintro e w2 ⟨A2, n2, c2, rfl, hs2, hb2⟩
        have hb2' := hb1.trans (hb2.mono hb1.size)
        have hs1' := hs1.below hb2
        have b1 : n1 ≤ 400 := by have := hs1.1; omega
        have b2 : n2 ≤ 400 := by have := hs2.1; omega
        clear hlr
        have h3 := find_any A B C c n d m f l bs zs pat w2 (hx.below hb2') (hy.below hb2') (hq.below hb2') (by omega) (by omega) (by omega)
        have H3 := Lib.hid h3; clear h3
        go_wp2_with fail
        refine H3.out.mono ?_
        rintro e w3 ⟨rfl, hb3⟩
        have hb3' := hb2'.trans (hb3.mono hb2'.size)
        have h4 := refFind_any A B C c n d m f l bs zs pat w3 (hx.below hb3') (hy.below hb3') (hq.below hb3') (by omega) (by omega) (by omega)
        have H4 := Lib.hid h4; clear h4
        go_wp2_with fail
        refine H4.out.mono ?_
        rintro e w4 ⟨rfl, hb4⟩
        have hb4' := hb3'.trans (hb4.mono hb3'.size)
        go_wp2_with fail
        refine (awake_any _).mono ?_
        rintro e w5 ⟨rfl, hb5⟩
        have hb5' := hb4'.trans (hb5.mono hb4'.size)
        have d4 : (checkErr bs zs == checkErr bs zs) = true := by simp
        have d5 : (findLow bs zs pat == findLow bs zs pat) = true := by simp
        have d6 : (findHigh bs zs pat == findHigh bs zs pat) = true := by simp
        have d7 : (findErr bs zs pat == findErr bs zs pat) = true := by simp
        have h6 := same_any _ _ _ _ _ _ _ _ _ (((hs1'.below hb3).below hb4).below hb5) (((hs2.below hb3).below hb4).below hb5) (by omega) (by omega)
        rw [decide_eq_true rfl] at h6
        have H6 := Lib.hid h6; clear h6
        go_wp2_with fail
        refine H6.out.mono ?_
        rintro e w6 ⟨rfl, hd6⟩
        go_wp2_with fail
        go_ret
        exact ⟨rfl, hb5'.trans (hd6.below _)⟩
end Go.Proofs.Ytkndcbnajkiceaa
