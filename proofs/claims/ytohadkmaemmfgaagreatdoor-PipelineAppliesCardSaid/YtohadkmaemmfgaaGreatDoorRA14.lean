/- Wa Wb Wd We Wf. -/
import Derived.Test.YtohadkmaemmfgaaGreatDoorProg
import Derived.Test.YtohadkmaemmfgaaGreatDoorRA00
import Derived.WalkLawsBesides
import Derived.Test.YtohadkmaemmfgaaGreatDoorRA12
import Derived.Deep.RegionLaw
set_option maxRecDepth 100000
set_option maxHeartbeats 4000000
namespace Go.Proofs.YtohadkmaemmfgaaGreatDoor.Bwt
open Go.RowKit Go.Proofs
set_option linter.unusedVariables false
theorem tB : Tryz.prog.underlying 23 = some (.slice (Tryz.prog.elem 23)) := by kernel_rfl
theorem eB : Tryz.prog.elem 23 = 5 := by kernel_rfl
theorem sB : ∀ W : World, (sizeOf 5).run Tryz.prog W = .ok 1 W := fun _ => by kernel_rfl
theorem uB : Tryz.prog.underlying 23 = some (.slice 5) := by kernel_rfl
theorem u8 : Tryz.prog.underlying 5 = some (.int .u8) := by kernel_rfl
theorem uS : Tryz.prog.underlying 9 = some .string := by kernel_rfl
theorem tI : Tryz.prog.underlying 52 = some (.slice (Tryz.prog.elem 52)) := by kernel_rfl
theorem eI : Tryz.prog.elem 52 = 3 := by kernel_rfl
theorem sI : ∀ W : World, (sizeOf 3).run Tryz.prog W = .ok 1 W := fun _ => by kernel_rfl
theorem gi_ext {xs ys : List Int} (hl : xs.length = ys.length) (h : ∀ i, i < xs.length → gi xs i = gi ys i) : xs = ys := by
  apply List.ext_getElem hl
  intro i h1 h2
  have := h i h1
  simpa [gi, List.getD, h1, h2] using this
theorem uI : Tryz.prog.underlying 52 = some (.slice 3) := by kernel_rfl
theorem infoI : (Tryz.prog.info? 3).map (fun i => (i.zero, i.size, i.bytes)) = some (some (.int .i64 0), 1, 8) := by kernel_rfl

theorem one_i64 (x : Int) : (Value.int .i64 x).oneCell' = true := rfl
theorem _root_.Go.Proofs.YtohadkmaemmfgaaGreatDoor.Own.src {w : World} {B : Nat} {e : TypeId} {A : Option Addr} {n c : Nat} {zs : List Int} (h : Ints w A n c zs) : Cells w A n (fun i => Value.int .i64 (zs.getD i 0)) := h.2.2
theorem refSort_any (A : Option Addr) (c n : Nat) (bs : List UInt8) (w : World) (hx : Bytes w A n c bs) (hn : n ≤ 65536) :
    Calls Tryz.prog 191 #[.slice A n c] w (RetInts w (sortL bs) 0) := by
  have d0 : decide ((65536 : Int) < (n : Int)) = false := by simp; omega
  have Hn := Lib.hid hx.1
  go_enter Tryz.func191, Tryz.ntmps191
  go_wp2
  go_loopw [4, 5] (fun o i wr => ∃ (k p : Nat) (A' : Option Addr) (c' : Nat), k + p = n + 1 ∧ i = .int .i64 ((p : Int) - 1) ∧ o = .slice A' k c' ∧ Own (Value.int .i64) wr w.heap.size 3 A' k c' (sortTo bs k) ∧ Below w.heap.size w wr) (fun _ i _ => (intOf i + 1).toNat)
  case atStart => exact ⟨0, n + 1, none, 0, by omega, by go_num, rfl, Own.nil _ _ _ _, Below.refl _ _⟩
  case round =>
    obtain ⟨k, p, A', c', hkp, rfl, rfl, hown, hbel⟩ := hrel
    obtain ⟨wo, rfl⟩ : ∃ wo : World, wo = wr := ⟨_, rfl⟩
    rcases Nat.eq_zero_or_pos p with hp0 | hp0
    · subst hp0
      obtain rfl : k = n + 1 := by omega
      go_wp2
      go_ret2
      exact RetInts.mk rfl (by unfold sortL; rw [Hn.out]; exact hown.ints) hbel
    · obtain ⟨pn, rfl⟩ : ∃ pn, p = pn + 1 := ⟨p - 1, by omega⟩
      have ep : ((pn + 1 : Nat) : Int) - 1 = (pn : Int) := by omega
      rw [ep]
      have hkn : k ≤ n := by omega
      have hpn : pn ≤ n := by omega
      have Hkp := Lib.hid hkp; clear hkp ep hp0
      have hS : ∀ i, i < k → 0 ≤ gi (sortTo bs k) i ∧ gi (sortTo bs k) i ≤ n := fun i hi => by
        have := sortTo_range bs k _ (gi_mem (by rw [sortTo_length]; exact hi))
        rw [Hn.out] at this
        exact this
      have HS := Lib.hid hS; clear hS
      have hx0 := hx.below hbel
      have hi0 := hown.ints
      go_wp2
      go_loopw [6] (fun a wr => ∃ j : Nat, j ≤ k ∧ a = .int .i64 j ∧ Hid (∀ i, i < j → less (sfx bs (gi (sortTo bs k) i)) (sfx bs (pn : Int)) = true) ∧ Drawn wo wr) (fun a _ => k - (intOf a).toNat)
      case atStart => exact ⟨0, by omega, rfl, fun i hi => absurd hi (by omega), Drawn.refl _⟩
      case round =>
        obtain ⟨j, hj, rfl, HJ, hdr⟩ := hrel
        have hx2 := hx0.below (hdr.below _)
        have hi2 := hi0.below (hdr.below _)
        have hown2 := hown.below (hdr.below _)
        have hbel2 := hbel.trans (hdr.below _)
        have fin : (j < k → less (sfx bs (gi (sortTo bs k) j)) (sfx bs (pn : Int)) = false) → insAt bs (sortTo bs k) (pn : Int) = j := fun h =>
          ahead_eq (by rw [sortTo_length]; exact hj) HJ.out (fun hk => h (by rwa [sortTo_length] at hk))
        have Fin := Lib.hid fin; clear fin
        by_cases hlt : j < k
        · have e4 : decide ((j : Int) < (k : Int)) = true := by simp; omega
          obtain ⟨a0, a1⟩ := HS.out j hlt
          obtain ⟨A1, r1, v1⟩ := hx2.cut_l tB eB sB (gi (sortTo bs k) j) a0 a1
          obtain ⟨A2, r2, v2⟩ := hx2.cut_l tB eB sB (pn : Int) (by omega) (by omega)
          have s1 := fun q => (v1.drewN q).str 23 5 9 uB u8 uS
          have s2 := fun q => (v2.drewN q).str 23 5 9 uB u8 uS
          rw [Int.toNat_natCast] at s2
          obtain ⟨b, off, rfl, hb, hcell⟩ := hi2.get hlt
          have c1 := hcell j hlt
          clear hcell
          cases hs : less (sfx bs (gi (sortTo bs k) j)) (sfx bs (pn : Int)) with
          | true =>
            have e1 : Op.bytesLess (strB (bs.drop (gi (sortTo bs k) j).toNat)).toList (strB (bs.drop pn)).toList = true := by rw [strB_less]; exact hs
            have Hs := Lib.hid hs; clear hs
            go_wp2
            go_quiet (fail)
            go_wp2
            go_roundw
            case rel => exact ⟨j + 1, by omega, by go_num, fun i hi => by
              rcases Nat.lt_or_ge i j with h | h
              · exact HJ.out i h
              · obtain rfl : i = j := by omega
                exact Hs.out, hdr.step _⟩
            case measure => simp [intOf]; omega
          | false =>
            have e1 : Op.bytesLess (strB (bs.drop (gi (sortTo bs k) j).toNat)).toList (strB (bs.drop pn)).toList = false := by rw [strB_less]; exact hs
            have HI := Lib.hid (Fin.out (fun _ => hs))
            clear hs
            go_wp2
            go_quiet (fail)
            clear c1 r1 s1 v1 e1 r2 s2 v2
            obtain ⟨W, hW⟩ : ∃ W : World, W = wr.drewN nq := ⟨_, rfl⟩
            have hdrW : Drawn wr W := ⟨nq, hW⟩
            rw [← hW]
            clear hW
            have hi3 := hi2.below (hdrW.below _)
            have hown3 := hown2.below (hdrW.below _)
            have hbel3 := hbel2.trans (hdrW.below _)
            obtain ⟨r3, v3⟩ := hi3.cut_h tI eI sI (j : Int) (by omega) (by omega)
            obtain ⟨A4, r4, v4⟩ := hi3.cut_l tI eI sI (j : Int) (by omega) (by omega)
            rw [Int.toNat_natCast] at v3 v4
            have hz3 : Hid ((List.take j (sortTo bs k)).length = j) := v3.1
            have hz4 : Hid ((List.drop j (sortTo bs k)).length = k - j) := v4.1
            have m1 : Hid (0 + j ≤ maxLen ∧ (0 + j) * 8 ≤ 140737488355328) := by simp [Hid, maxLen]; omega
            have m2 : Hid (j + 1 ≤ maxLen ∧ (j + 1) * 8 ≤ 140737488355328) := by simp [Hid, maxLen]; omega
            have m3 : Hid (j + 1 + (k - j) ≤ maxLen ∧ (j + 1 + (k - j)) * 8 ≤ 140737488355328) := by simp [Hid, maxLen]; omega
            go_wp2_with (first
              | (at_builtin; refine wpList_app rfl (.tmp 37) (.tmp 40) rfl uI infoI one_i64 rfl rfl (Own.nil (Value.int .i64) W W.heap.size 3) (Nat.le_refl _) _ j _ (List.take j (sortTo bs k)) 0 hz3.out v3.2.2 rfl m1.out.1 m1.out.2 ?_; intro A5 c5 W5 ho5 hb5 hg5; simp only [Nat.zero_add, List.nil_append] at ho5)
              | (at_builtin; refine wpList_push (enc := Value.int .i64) rfl (.tmp 41) (.tmp 43) rfl uI infoI one_i64 rfl rfl ho5 hb5.size (pn : Int) rfl m2.out.1 m2.out.2 ?_; intro A6 c6 W6 ho6 hb6)
              | (at_builtin; refine wpList_app rfl (.tmp 45) (.tmp 48) rfl uI infoI one_i64 rfl rfl ho6 (hb5.trans hb6).size A4 (k - j) _ (List.drop j (sortTo bs k)) 0 hz4.out (v4.2.2.below (hb5.trans hb6)) rfl m3.out.1 m3.out.2 ?_; intro A7 c7 W7 ho7 hb7 hg7))
            go_roundw
            case rel =>
              have hbW := (hb5.trans hb6).trans hb7
              have hk1 : j + 1 + (k - j) = k + 1 := by omega
              have hfin : List.take j (sortTo bs k) ++ [(pn : Int)] ++ List.drop j (sortTo bs k) = sortTo bs (k + 1) := by
                show _ = insP bs (sortTo bs k) ((bs.length - k : Nat) : Int)
                have : bs.length - k = pn := by have := Hn.out; have := Hkp.out; omega
                rw [this]
                unfold insP
                rw [HI.out]
              rw [hfin, hk1] at ho7
              refine ⟨k + 1, pn, A7, c7, by have := Hkp.out; omega, rfl, ?_, ho7.mono hbel3.size, hbel3.trans (hbW.mono hbel3.size)⟩
              rw [hk1]
            case measure => simp [intOf]
        · have e4 : decide ((j : Int) < (k : Int)) = false := by simp; omega
          have HI := Lib.hid (Fin.out (fun h => absurd h hlt))
          go_wp2
          go_quiet (fail)
          obtain ⟨W, hW⟩ : ∃ W : World, W = wr.drewN nq := ⟨_, rfl⟩
          have hdrW : Drawn wr W := ⟨nq, hW⟩
          rw [← hW]
          clear hW
          have hi3 := hi2.below (hdrW.below _)
          have hown3 := hown2.below (hdrW.below _)
          have hbel3 := hbel2.trans (hdrW.below _)
          obtain ⟨r3, v3⟩ := hi3.cut_h tI eI sI (j : Int) (by omega) (by omega)
          obtain ⟨A4, r4, v4⟩ := hi3.cut_l tI eI sI (j : Int) (by omega) (by omega)
          rw [Int.toNat_natCast] at v3 v4
          have hz3 : Hid ((List.take j (sortTo bs k)).length = j) := v3.1
          have hz4 : Hid ((List.drop j (sortTo bs k)).length = k - j) := v4.1
          have m1 : Hid (0 + j ≤ maxLen ∧ (0 + j) * 8 ≤ 140737488355328) := by simp [Hid, maxLen]; omega
          have m2 : Hid (j + 1 ≤ maxLen ∧ (j + 1) * 8 ≤ 140737488355328) := by simp [Hid, maxLen]; omega
          have m3 : Hid (j + 1 + (k - j) ≤ maxLen ∧ (j + 1 + (k - j)) * 8 ≤ 140737488355328) := by simp [Hid, maxLen]; omega
          go_wp2_with (first
            | (at_builtin; refine wpList_app rfl (.tmp 37) (.tmp 40) rfl uI infoI one_i64 rfl rfl (Own.nil (Value.int .i64) W W.heap.size 3) (Nat.le_refl _) _ j _ (List.take j (sortTo bs k)) 0 hz3.out v3.2.2 rfl m1.out.1 m1.out.2 ?_; intro A5 c5 W5 ho5 hb5 hg5; simp only [Nat.zero_add, List.nil_append] at ho5)
            | (at_builtin; refine wpList_push (enc := Value.int .i64) rfl (.tmp 41) (.tmp 43) rfl uI infoI one_i64 rfl rfl ho5 hb5.size (pn : Int) rfl m2.out.1 m2.out.2 ?_; intro A6 c6 W6 ho6 hb6)
            | (at_builtin; refine wpList_app rfl (.tmp 45) (.tmp 48) rfl uI infoI one_i64 rfl rfl ho6 (hb5.trans hb6).size A4 (k - j) _ (List.drop j (sortTo bs k)) 0 hz4.out (v4.2.2.below (hb5.trans hb6)) rfl m3.out.1 m3.out.2 ?_; intro A7 c7 W7 ho7 hb7 hg7))
          go_roundw
          case rel =>
            have hbW := (hb5.trans hb6).trans hb7
            have hk1 : j + 1 + (k - j) = k + 1 := by omega
            have hfin : List.take j (sortTo bs k) ++ [(pn : Int)] ++ List.drop j (sortTo bs k) = sortTo bs (k + 1) := by
              show _ = insP bs (sortTo bs k) ((bs.length - k : Nat) : Int)
              have : bs.length - k = pn := by have := Hn.out; have := Hkp.out; omega
              rw [this]
              unfold insP
              rw [HI.out]
            rw [hfin, hk1] at ho7
            refine ⟨k + 1, pn, A7, c7, by have := Hkp.out; omega, rfl, ?_, ho7.mono hbel3.size, hbel3.trans (hbW.mono hbel3.size)⟩
            rw [hk1]
          case measure => simp [intOf]
end Go.Proofs.YtohadkmaemmfgaaGreatDoor.Bwt
