/- Contracts of the reference: Common, Find. -/
import Derived.Test.YtkndcbnajkiceaaWd
import Derived.Deep.RegionLaw
import Derived.IntWalk
namespace Go.Proofs.Ytkndcbnajkiceaa
open Go.RowKit Go.Proofs
set_option linter.unusedVariables false

theorem one_i64 (x : Int) : (Value.int .i64 x).oneCell' = true := rfl

def commonOut (bs : List UInt8) (zs : List Int) : List Int := if checkErr bs zs = 0 then commonL bs zs else []

set_option maxHeartbeats 1000000 in
theorem refCommon_any (A B : Option Addr) (c n d m : Nat) (bs : List UInt8) (zs : List Int) (w : World) (hx : Bytes w A n c bs) (hy : Ints w B m d zs) (hn : n ≤ 65536) (hm : m ≤ 65537) :
    Calls Try.prog 19 #[.slice A n c, .slice B m d] w (RetInts w (commonOut bs zs) (checkErr bs zs)) := by
  have hcal := refCheck_any A B c n d m bs zs w hx hy hn hm
  by_cases hp : checkErr bs zs = 0
  · have d2 : (checkErr bs zs != 0) = false := by simp [hp]
    obtain ⟨hv1, hv2, hv3, hv4⟩ := checkErr_zero hp
    have hlm := hy.1
    have hln := hx.1
    have hz : ∀ i, i < m → 0 ≤ gi zs i ∧ gi zs i ≤ n := fun i hi => by
      have := ((permErr_zero_iff zs).1 hv3).1 (gi zs i) (gi_mem (by omega))
      omega
    have hm1 : 1 ≤ m := by omega
    have HZ := Lib.hid hz; clear hz
    have Hp := Lib.hid hp; clear hp
    have Hlm := Lib.hid hlm; clear hlm
    clear hv1 hv2 hv3 hv4 hln
    go_enter Try.func19, Try.ntmps19
    go_wp2_with fail
    refine hcal.mono ?_
    rintro e w1 ⟨rfl, hb1⟩
    have hx1 := hx.below hb1
    have hy1 := hy.below hb1
    clear hcal
    go_wp2_with fail
    go_loopw [7, 8] (fun o i wr => ∃ (k : Nat) (A' : Option Addr) (c' : Nat), 1 ≤ k ∧ k ≤ m ∧ i = .int .i64 k ∧ o = .slice A' k c' ∧ Own (Value.int .i64) wr w1.heap.size 3 A' k c' (commonTo bs zs k) ∧ Below w1.heap.size w1 wr) (fun _ i _ => m - (intOf i).toNat)
    case atStart =>
      refine ⟨1, _, _, by omega, hm1, rfl, rfl, ?_, (Below.refl _ _).alloc (Nat.le_refl _) _⟩
      exact World.ownsRow_lit _ _ 1 (Nat.le_refl _) (by simp [maxLen]) rfl
    case round =>
      obtain ⟨k, A', c', hk1, hk, rfl, rfl, hown, hbel⟩ := hrel
      by_cases hlt : k < m
      · obtain ⟨j, rfl⟩ : ∃ j, k = j + 1 := ⟨k - 1, by omega⟩
        obtain ⟨a0, a1⟩ := HZ.out j (by omega)
        obtain ⟨b0, b1⟩ := HZ.out (j + 1) hlt
        obtain ⟨b, off, rfl, hb, hcell⟩ := (hy1.below hbel).get hlt
        have c1 := hcell j (by omega)
        have c2 := hcell (j + 1) hlt
        clear hcell
        have hx2 := hx1.below hbel
        have hcom : ∀ q, Calls Try.prog 33 #[.slice A n c, .int .i64 (gi zs j), .int .i64 (gi zs (j + 1))] (wr.drewN q) fun e w' => e = .returned (.int .i64 (lcp (sfx bs (gi zs j)) (sfx bs (gi zs (j + 1))))) ∧ Drawn (wr.drewN q) w' :=
          fun q => common_any A c n bs _ _ _ (hx2.drewN q) (by omega) a0 a1 b0 b1
        have Hcom := Lib.hid hcom; clear hcom
        have e1 : IntKind.i64.wrap (j : Int) = j := IntWalk.i64_in _ (by omega)
        have e2 : 0 ≤ (j : Int) + 1 := by omega
        have e3 : ((j : Int) + 1).toNat = j + 1 := by omega
        have e4 : (j : Int) < m := by omega
        have e5 : (j : Int) + 1 < m := by omega
        go_wp2_with fail
        go_region_law (first
          | (refine step_push (enc := Value.int .i64) (bytes := 8) (zero := 0) rfl (.tmp 22) (.tmp 34) rfl uI infoI one_i64 rfl rfl hown' hB' _ rfl (by simp [maxLen]; omega) (by omega) ?_; intro A2 c2 w2 hown2 hb2)
          | (go_simp; go_at_call 33; refine (Hcom.out _).mono ?_; rintro e w' ⟨rfl, hd⟩; have hb' : Below wr.heap.size wr w' := ((Drawn.drewN _ _).below _).trans (hd.below _); have hown' := hown.below hb'; have hB' : w1.heap.size ≤ w'.heap.size := by have h1 := hb'.size; have h2 := hbel.size; omega))
        all_goals
          clear e1 e2 e3 e4 e5
          go_wp2
          go_roundw
          case rel => exact ⟨j + 1 + 1, A2, c2, by omega, by omega, by go_num, rfl, by rw [commonTo_next bs zs (j + 1) (by omega)]; exact hown2, (hbel.trans (hb'.mono hbel.size)).trans hb2⟩
          case measure => simp [intOf]; omega
      · have hkm : k = m := by omega
        subst hkm
        go_wp2
        go_ret2
        refine RetInts.mk Hp.out.symm ?_ (hb1.trans (hbel.mono hb1.size))
        unfold commonOut commonL
        rw [if_pos Hp.out, Hlm.out]
        exact hown.ints
  · have d2 : (checkErr bs zs != 0) = true := by simp [hp]
    have hfin : Hid (commonOut bs zs = []) := by show _ = _; unfold commonOut; rw [if_neg hp]
    clear hp
    go_enter Try.func19, Try.ntmps19
    go_wp2_with fail
    refine hcal.mono ?_
    rintro e w1 ⟨rfl, hb1⟩
    go_wp2_with fail
    go_ret2
    refine RetInts.mk rfl ?_ hb1
    rw [hfin.out]
    exact Ints.nil _ _

/-- The reference's Find: the two rows and the error. -/
def findErr (bs : List UInt8) (zs : List Int) (pat : List UInt8) : Int := if checkErr bs zs ≠ 0 then checkErr bs zs else if 65536 < pat.length then 5 else 0
def findLow (bs : List UInt8) (zs : List Int) (pat : List UInt8) : Int := if findErr bs zs pat = 0 then lowOf bs zs pat else 0
def findHigh (bs : List UInt8) (zs : List Int) (pat : List UInt8) : Int := if findErr bs zs pat = 0 then highOf bs zs pat else 0
theorem ret_int3 {a b c a' b' c' : Int} (h1 : a = a') (h2 : b = b') (h3 : c = c') : Ending.returned (.tuple #[.int .i64 a, .int .i64 b, .int .i64 c]) = .returned (.tuple #[.int .i64 a', .int .i64 b', .int .i64 c']) := by rw [h1, h2, h3]

set_option maxHeartbeats 1000000 in
theorem refFind_any (A B C : Option Addr) (c n d m f l : Nat) (bs : List UInt8) (zs : List Int) (pat : List UInt8) (w : World) (hx : Bytes w A n c bs) (hy : Ints w B m d zs) (hq : Bytes w C l f pat) (hn : n ≤ 65536) (hm : m ≤ 65537) (hl : l ≤ 65536) :
    Calls Try.prog 21 #[.slice A n c, .slice B m d, .slice C l f] w fun e w' => e = .returned (.tuple #[.int .i64 (findLow bs zs pat), .int .i64 (findHigh bs zs pat), .int .i64 (findErr bs zs pat)]) ∧ Below w.heap.size w w' := by
  have hcal := refCheck_any A B c n d m bs zs w hx hy hn hm
  by_cases hp : checkErr bs zs = 0
  · have d2 : (checkErr bs zs != 0) = false := by simp [hp]
    have d3 : decide ((65536 : Int) < (l : Int)) = false := by simp; omega
    obtain ⟨hv1, hv2, hv3, hv4⟩ := checkErr_zero hp
    have hlm := hy.1
    have hln := hx.1
    have hlp := hq.1
    have hz : ∀ i, i < m → 0 ≤ gi zs i ∧ gi zs i ≤ n := fun i hi => by
      have := ((permErr_zero_iff zs).1 hv3).1 (gi zs i) (gi_mem (by omega))
      omega
    have hm1 : 0 < m := by omega
    have HZ := Lib.hid hz; clear hz
    have he : findErr bs zs pat = 0 := by unfold findErr; rw [if_neg (by omega), if_neg (by omega)]
    have He := Lib.hid he; clear he
    have Hp := Lib.hid hp; clear hp
    have Hlm := Lib.hid hlm; clear hlm
    have Hlp := Lib.hid hlp; clear hlp
    obtain ⟨b, off, rfl, -, -⟩ := hy.get hm1
    clear hv1 hv2 hv3 hv4 hln hm1
    go_enter Try.func21, Try.ntmps21
    go_wp2_with fail
    refine hcal.mono ?_
    rintro e w1 ⟨rfl, hb1⟩
    have hx1 := hx.below hb1
    have hy1 := hy.below hb1
    have hq1 := hq.below hb1
    have s2 := fun q => (hq1.drewN q).str 22 5 9 uB u8 uS
    clear hcal
    go_wp2_with fail
    go_loopw [10] (fun i wr => ∃ k : Nat, k ≤ m ∧ i = .int .i64 k ∧ Hid (∀ i, i < k → less (sfx bs (gi zs i)) pat = true) ∧ ∃ q, wr = w1.drewN q) (fun i _ => m - (intOf i).toNat)
    case atStart => exact ⟨0, by omega, rfl, fun i hi => absurd hi (by omega), 0, rfl⟩
    case round =>
      obtain ⟨k, hk, rfl, HK, q, rfl⟩ := hrel
      have second : Hid (k < m → less (sfx bs (gi zs k)) pat = false) → Hid (lowOf bs zs pat = k) := fun h => ahead_eq (by have := Hlm.out; omega) HK.out (fun hk => h.out (by have := Hlm.out; omega))
      by_cases hlt : k < m
      · have e4 : decide ((k : Int) < m) = true := by simp; omega
        obtain ⟨a0, a1⟩ := HZ.out k hlt
        obtain ⟨A1, r1, v1⟩ := hx1.cut_l tB eB sB (gi zs k) a0 a1
        have s1 := fun q => (v1.drewN q).str 22 5 9 uB u8 uS
        have c1 := hy1.cell hlt
        cases hs : less (sfx bs (gi zs k)) pat with
        | true =>
          have e1 : Op.bytesLess (strB (bs.drop (gi zs k).toNat)).toList (strB pat).toList = true := by rw [strB_less]; exact hs
          have Hs := Lib.hid hs; clear hs
          clear second
          go_wp2
          go_quiet (fail)
          go_wp2
          go_roundw
          case rel => exact ⟨k + 1, by omega, by go_num, fun i hi => by
            rcases Nat.lt_or_ge i k with h | h
            · exact HK.out i h
            · obtain rfl : i = k := by omega
              exact Hs.out, _, rfl⟩
          case measure => simp [intOf]; omega
        | false =>
          have e1 : Op.bytesLess (strB (bs.drop (gi zs k).toNat)).toList (strB pat).toList = false := by rw [strB_less]; exact hs
          have HL := second (fun _ => hs)
          clear hs second
          go_wp2
          go_quiet (fail)
          clear c1 r1 s1 v1 e1
          go_wp2
          go_loopw [11] (fun i wr => ∃ j : Nat, k + j ≤ m ∧ i = .int .i64 ((k + j : Nat) : Int) ∧ Hid (∀ i, i < j → begins pat (sfx bs (gi (zs.drop k) i)) = true) ∧ Drawn w1 wr) (fun i _ => m - (intOf i).toNat)
          case atStart => exact ⟨0, by omega, rfl, fun i hi => absurd hi (by omega), (Drawn.drewN _ _).step _⟩
          case round =>
            obtain ⟨j, hj, rfl, HJ, hdr⟩ := hrel
            have hx2 := hx1.below (hdr.below _)
            have hy2 := hy1.below (hdr.below _)
            have hq2 := hq1.below (hdr.below _)
            have fin : (k + j < m → begins pat (sfx bs (gi zs (k + j))) = false) → highOf bs zs pat = k + j := fun h => by
              unfold highOf
              rw [HL.out, ahead_eq (k := j) (by have := Hlm.out; simp; omega) HJ.out (fun hk => by rw [gi_drop]; exact h (by have := Hlm.out; simp at hk; omega))]
            have Fin := Lib.hid fin; clear fin
            have e3 : findLow bs zs pat = k := by unfold findLow; rw [if_pos He.out, HL.out]
            have E3 := Lib.hid e3; clear e3
            have e3 : highOf bs zs pat = k + j → findHigh bs zs pat = ((k + j : Nat) : Int) := fun h => by unfold findHigh; rw [if_pos He.out, h]
            have E4 := Lib.hid e3; clear e3
            by_cases hlt : k + j < m
            · have e4 : decide ((k : Int) + (j : Int) < m) = true := by simp; omega
              obtain ⟨a0, a1⟩ := HZ.out (k + j) hlt
              obtain ⟨A1, r1, v1⟩ := hx2.cut_l tB eB sB (gi zs (k + j)) a0 a1
              have hcl := begins_any _ _ _ _ _ _ _ _ _ v1 hq2 (by omega) (by omega)
              have Hcl := Lib.hid hcl; clear hcl
              have c1 := hy2.cell hlt
              cases hs : begins pat (sfx bs (gi zs (k + j))) with
              | true =>
                have e1 : decide (List.take pat.length (List.drop (gi zs (k + j)).toNat bs) = pat) = true := hs
                have Hs := Lib.hid hs; clear hs
                go_wp2_with fail
                refine Hcl.out.mono ?_
                rintro e w2 ⟨rfl, hd2⟩
                go_wp2
                go_roundw
                case rel => exact ⟨j + 1, by omega, by go_num, fun i hi => by
                  rcases Nat.lt_or_ge i j with h | h
                  · exact HJ.out i h
                  · obtain rfl : i = j := by omega
                    rw [gi_drop]; exact Hs.out, hdr.trans hd2⟩
                case measure => simp [intOf]; omega
              | false =>
                have e1 : decide (List.take pat.length (List.drop (gi zs (k + j)).toNat bs) = pat) = false := hs
                have Hs := Lib.hid hs; clear hs
                go_wp2_with fail
                refine Hcl.out.mono ?_
                rintro e w2 ⟨rfl, hd2⟩
                go_wp2
                go_ret3
                exact ⟨ret_int3 E3.out.symm (E4.out (Fin.out (fun _ => Hs.out))).symm He.out.symm, hb1.trans ((hdr.trans hd2).below _)⟩
            · have e4 : decide ((k : Int) + (j : Int) < m) = false := by simp; omega
              go_wp2
              go_ret3
              exact ⟨ret_int3 E3.out.symm (E4.out (Fin.out (fun h => absurd h hlt))).symm He.out.symm, hb1.trans (hdr.below _)⟩
      · have e4 : decide ((k : Int) < m) = false := by simp; omega
        have HL := second (fun h => absurd h hlt)
        clear second
        go_wp2
        go_quiet (fail)
        go_wp2
        go_loopw [11] (fun i wr => ∃ j : Nat, k + j ≤ m ∧ i = .int .i64 ((k + j : Nat) : Int) ∧ Hid (∀ i, i < j → begins pat (sfx bs (gi (zs.drop k) i)) = true) ∧ Drawn w1 wr) (fun i _ => m - (intOf i).toNat)
        case atStart => exact ⟨0, by omega, rfl, fun i hi => absurd hi (by omega), (Drawn.drewN _ _).step _⟩
        case round =>
          obtain ⟨j, hj, rfl, HJ, hdr⟩ := hrel
          have hx2 := hx1.below (hdr.below _)
          have hy2 := hy1.below (hdr.below _)
          have hq2 := hq1.below (hdr.below _)
          have fin : (k + j < m → begins pat (sfx bs (gi zs (k + j))) = false) → highOf bs zs pat = k + j := fun h => by
            unfold highOf
            rw [HL.out, ahead_eq (k := j) (by have := Hlm.out; simp; omega) HJ.out (fun hk => by rw [gi_drop]; exact h (by have := Hlm.out; simp at hk; omega))]
          have Fin := Lib.hid fin; clear fin
          have e3 : findLow bs zs pat = k := by unfold findLow; rw [if_pos He.out, HL.out]
          have E3 := Lib.hid e3; clear e3
          have e3 : highOf bs zs pat = k + j → findHigh bs zs pat = ((k + j : Nat) : Int) := fun h => by unfold findHigh; rw [if_pos He.out, h]
          have E4 := Lib.hid e3; clear e3
          by_cases hlt : k + j < m
          · have e4 : decide ((k : Int) + (j : Int) < m) = true := by simp; omega
            obtain ⟨a0, a1⟩ := HZ.out (k + j) hlt
            obtain ⟨A1, r1, v1⟩ := hx2.cut_l tB eB sB (gi zs (k + j)) a0 a1
            have hcl := begins_any _ _ _ _ _ _ _ _ _ v1 hq2 (by omega) (by omega)
            have Hcl := Lib.hid hcl; clear hcl
            have c1 := hy2.cell hlt
            cases hs : begins pat (sfx bs (gi zs (k + j))) with
            | true =>
              have e1 : decide (List.take pat.length (List.drop (gi zs (k + j)).toNat bs) = pat) = true := hs
              have Hs := Lib.hid hs; clear hs
              go_wp2_with fail
              refine Hcl.out.mono ?_
              rintro e w2 ⟨rfl, hd2⟩
              go_wp2
              go_roundw
              case rel => exact ⟨j + 1, by omega, by go_num, fun i hi => by
                rcases Nat.lt_or_ge i j with h | h
                · exact HJ.out i h
                · obtain rfl : i = j := by omega
                  rw [gi_drop]; exact Hs.out, hdr.trans hd2⟩
              case measure => simp [intOf]; omega
            | false =>
              have e1 : decide (List.take pat.length (List.drop (gi zs (k + j)).toNat bs) = pat) = false := hs
              have Hs := Lib.hid hs; clear hs
              go_wp2_with fail
              refine Hcl.out.mono ?_
              rintro e w2 ⟨rfl, hd2⟩
              go_wp2
              go_ret3
              exact ⟨ret_int3 E3.out.symm (E4.out (Fin.out (fun _ => Hs.out))).symm He.out.symm, hb1.trans ((hdr.trans hd2).below _)⟩
          · have e4 : decide ((k : Int) + (j : Int) < m) = false := by simp; omega
            go_wp2
            go_ret3
            exact ⟨ret_int3 E3.out.symm (E4.out (Fin.out (fun h => absurd h hlt))).symm He.out.symm, hb1.trans (hdr.below _)⟩
  · have d2 : (checkErr bs zs != 0) = true := by simp [hp]
    have he : Hid (findErr bs zs pat = checkErr bs zs) := by show _ = _; unfold findErr; rw [if_pos hp]
    have h1 : Hid (findLow bs zs pat = 0) := by show _ = _; unfold findLow; rw [if_neg (by rw [he.out]; exact hp)]
    have h2 : Hid (findHigh bs zs pat = 0) := by show _ = _; unfold findHigh; rw [if_neg (by rw [he.out]; exact hp)]
    clear hp
    go_enter Try.func21, Try.ntmps21
    go_wp2_with fail
    refine hcal.mono ?_
    rintro e w1 ⟨rfl, hb1⟩
    go_wp2_with fail
    go_ret3
    exact ⟨ret_int3 h1.out.symm h2.out.symm he.out.symm, hb1⟩

end Go.Proofs.Ytkndcbnajkiceaa
