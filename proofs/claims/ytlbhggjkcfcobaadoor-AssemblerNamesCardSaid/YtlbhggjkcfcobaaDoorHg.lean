/- The reference of the assembler: read. (Printed by wip/mkhg.py.) -/
import Derived.Test.YtlbhggjkcfcobaaDoorHj
namespace Go.Proofs.YtlbhggjkcfcobaaDoor
open Go.RowKit Go.Proofs
set_option linter.unusedVariables false

set_option maxRecDepth 100000 in
set_option maxHeartbeats 40000000 in
theorem readR_any (src : List UInt8) (w : World) (hs : src.length ≤ 8192) : Calls Tryd.prog 29 #[.string (strB src)] w (RdP w (readL src)) := by
  have hsz : (strB src).size = src.length := strB_size' src
  obtain ⟨R, hR⟩ : ∃ R, R = readL src := ⟨_, rfl⟩
  rw [← hR]
  have HR := Lib.hid (hR.trans (readL_eq hs))
  clear hR
  have hbn := (wordsA_bnd (src := src) 0 (Nat.zero_le _))
  rw [wordsA_start] at hbn
  have r2a := rowV.new w 76 #[.slice none 0 0, .int .i64 0, .slice none 0 0, .slice none 0 0, .slice none 0 0, .slice none 0 0, .slice none 0 0, .int .i64 0, .int .i64 0, .int .i64 0]
  have b1 : Below w.heap.size w (w.alloc (.cells #[.slice none 0 0, .int .i64 0, .slice none 0 0, .slice none 0 0, .slice none 0 0, .slice none 0 0, .slice none 0 0, .int .i64 0, .int .i64 0, .int .i64 0] 76)) := balloc (Below.refl _ _) _
  obtain ⟨w1, hw1⟩ : ∃ w1, w1 = w.alloc (.cells #[.slice none 0 0, .int .i64 0, .slice none 0 0, .slice none 0 0, .slice none 0 0, .slice none 0 0, .slice none 0 0, .int .i64 0, .int .i64 0, .int .i64 0] 76) := ⟨_, rfl⟩
  rw [← hw1] at r2a b1
  have HWS := Lib.hid (wordsR_any src w1 (by omega))
  have HW1 := Lib.hid hw1
  have H1 := Lib.hid (And.intro r2a b1)
  clear hw1 r2a b1
  obtain ⟨ws, hws⟩ : ∃ ws, ws = wordsL src := ⟨_, rfl⟩
  rw [← hws] at HWS HR hbn
  have HBN : Hid (ws.length ≤ 8192 ∧ ∀ x ∈ ws, x.1.length ≤ 8192 ∧ x.2 ≤ 8192) := ⟨by omega, fun x hx => by have := hbn.2 x hx; omega⟩
  have HNL : Hid (∀ j, (nextW src.length (ws.drop j)).1.length ≤ 9000) := fun j => by
    cases hj : ws.drop j with
    | nil => exact Nat.zero_le _
    | cons y t =>
      have := (HBN.out.2 y (List.mem_of_mem_drop (by rw [hj]; simp))).1
      show y.1.length ≤ 9000
      omega
  clear hws hbn
  go_enter Tryd.func29, Tryd.ntmps29
  go_wp2_with fail
  rw [← HW1.out]
  refine HWS.out.mono ?_
  rintro e w2 ⟨A, nl, cl, rfl, hwo, hb2⟩
  have r2b := H1.out.1.below hb2 H1.out.1.lt
  have b2 := H1.out.2.trans (hb2.mono H1.out.2.size)
  have r4 := rowV.new w2 76 #[.slice none 0 0, .int .i64 0, .slice none 0 0, .slice none 0 0, .slice none 0 0, .slice none 0 0, .slice none 0 0, .int .i64 0, .int .i64 0, .int .i64 0]
  have gx := (Below.refl w2.heap.size w2).alloc (Nat.le_refl _) (.cells #[.slice none 0 0, .int .i64 0, .slice none 0 0, .slice none 0 0, .slice none 0 0, .slice none 0 0, .slice none 0 0, .int .i64 0, .int .i64 0, .int .i64 0] 76)
  have r2c := r2b.below gx r2b.lt
  have hwo2 := (hwo.mono (B' := w.heap.size) H1.out.2.size).below gx
  have b3 := b2.trans (gx.mono b2.size)
  have hg4 : w.heap.size < w2.heap.size := r2b.lt
  obtain ⟨w3, hw3⟩ : ∃ w3, w3 = w2.alloc (.cells #[.slice none 0 0, .int .i64 0, .slice none 0 0, .slice none 0 0, .slice none 0 0, .slice none 0 0, .slice none 0 0, .int .i64 0, .int .i64 0, .int .i64 0] 76) := ⟨_, rfl⟩
  rw [← hw3] at r4 r2c hwo2 b3
  obtain ⟨g4, hg4e⟩ : ∃ g4, g4 = w2.heap.size := ⟨_, rfl⟩
  rw [← hg4e] at r4 hg4
  have hnl : ws.length = nl := hwo2.length (fun _ => rfl) (by decide)
  have hnl8 : nl ≤ 8192 := by have := HBN.out.1; omega
  have HI0 : Hid (RdI w w3 g4 ws A nl cl ⟨none, 0, 0, none, 0, 0, none, 0, 0, none, 0, 0, none, 0, 0, none, 0, 0⟩ 0 0 0 0) := ⟨r2c, r4, hwo2, b3, hg4⟩
  have HA0 : Hid (AliveR w w3 src.length 0 ws R ⟨none, 0, 0, none, 0, 0, none, 0, 0, none, 0, 0, none, 0, 0, none, 0, 0⟩ 0 0 AS.start) := ⟨rfl, rfl, RS.nil _ _, Formed.start, Nat.le_refl _, HR.out.symm⟩
  have HW3 : Hid (w2.alloc (.cells #[.slice none 0 0, .int .i64 0, .slice none 0 0, .slice none 0 0, .slice none 0 0, .slice none 0 0, .slice none 0 0, .int .i64 0, .int .i64 0, .int .i64 0] 76) = w3 ∧ w2.heap.size = g4) := ⟨hw3.symm, hg4e.symm⟩
  clear r2b b2 r4 gx r2c hwo2 b3 hg4 hwo hb2 H1 HWS HW1 hw3 hg4e HR
  go_wp2_with fail
  rw [HW3.out.1, HW3.out.2]
  go_loopw [5, 6, 7, 8, 9, 10, 11] (fun s5 _ _ _ _ _ _ wr => ∃ (k : Nat) (v : SVs) (L C a er : Int), k ≤ nl + 3 ∧ s5 = .int .i64 (k : Int) ∧ Hid (RdI w wr g4 ws A nl cl v L C a er) ∧ Hid (er = 0 → ∃ s, AliveR w wr src.length k ws R v L C s) ∧ Hid (er ≠ 0 → ∃ a' : Nat, a = (a' : Int) ∧ R = .bad a' er)) (fun s5 _ _ _ _ _ _ wr => measR g4 nl s5 wr)
  case atStart => exact ⟨0, _, _, _, _, _, Nat.zero_le _, rfl, HI0.out, fun _ => ⟨_, HA0.out⟩, fun h => absurd rfl h⟩
  case round =>
    clear HI0 HA0
    obtain ⟨k, v, L, C, a, er, hk3, rfl, HI, HAl, HDe⟩ := hrel
    obtain ⟨wo, rfl⟩ : ∃ wo, wo = wr := ⟨_, rfl⟩
    by_cases hk : k < nl
    · have d1 : decide ((k : Int) < (nl : Int)) = true := by simp; omega
      have d1' : decide (k < nl) = true := by simp; omega
      by_cases he : er = 0
      · subst he
        obtain ⟨s, hL, hC, hRS, hF, hcn, hrd⟩ := HAl.out rfl
        subst hL hC
        have c49 : wo.cell? ⟨g4, 9, none⟩ = some (.int .i64 0) := cell_rowV HI.out.r4 rfl
        obtain ⟨b, off, hA, hbl, hcell⟩ := wds_of HI.out.wo (by omega)
        obtain ⟨q1, q2⟩ := hcell k hk
        obtain ⟨x, z, hxz⟩ : ∃ x z, gW ws k = (x, z) := ⟨_, _, rfl⟩
        rw [hxz] at q1 q2
        dsimp only at q1 q2
        obtain ⟨k1, hk1⟩ : ∃ k1, k1 = k + 1 := ⟨_, rfl⟩
        obtain ⟨k2, hk2⟩ : ∃ k2, k2 = k1 + 1 := ⟨_, rfl⟩
        have ek1 : (k : Int) + 1 = (k1 : Int) := by omega
        have ek2 : (k1 : Int) + 1 = (k2 : Int) := by omega
        have ek3 : (k : Int) + 2 = (k2 : Int) := by omega
        obtain ⟨x0, z0, hw0⟩ : ∃ x0 z0, nextW src.length (ws.drop k1) = (x0, z0) := ⟨_, _, rfl⟩
        obtain ⟨x1, z1, hw1⟩ : ∃ x1 z1, nextW src.length (ws.drop k2) = (x1, z1) := ⟨_, _, rfl⟩
        have HN1 : Hid (k1 < nl → gW ws k1 = (x0, z0)) := fun h => (nextW_drop src.length (by omega)).symm.trans hw0
        have HN2 : Hid (k2 < nl → gW ws k2 = (x1, z1)) := fun h => (nextW_drop src.length (by omega)).symm.trans hw1
        have HO1 : Hid (¬ k1 < nl → x0 = [] ∧ z0 = src.length) := fun h => by have := (nextW_over src.length (ws := ws) (k := k1) (by omega)).symm.trans hw0; injection this with h1 h2; exact ⟨h1.symm, h2.symm⟩
        have HO2 : Hid (¬ k2 < nl → x1 = [] ∧ z1 = src.length) := fun h => by have := (nextW_over src.length (ws := ws) (k := k2) (by omega)).symm.trans hw1; injection this with h1 h2; exact ⟨h1.symm, h2.symm⟩
        have hk1n : k1 ≤ nl := by omega
        have hk2n : k2 ≤ nl + 1 := by omega
        have HK := Lib.hid (And.intro hk1 hk2)
        clear hk1 hk2
        have HCELL := Lib.hid hcell
        obtain ⟨b2, r6, r7⟩ := two_allocW wo #[.string (strB x), .int .i64 (z : Int)] #[.string ⟨#[]⟩, .int .i64 0, .string ⟨#[]⟩, .int .i64 0] 104 105
        obtain ⟨w6, hw6⟩ : ∃ w6, w6 = (wo.alloc (.cells #[.string (strB x), .int .i64 (z : Int)] 104)).alloc (.cells #[.string ⟨#[]⟩, .int .i64 0, .string ⟨#[]⟩, .int .i64 0] 105) := ⟨_, rfl⟩
        rw [← hw6] at b2 r6 r7
        have HW6 : Hid ((wo.alloc (.cells #[.string (strB x), .int .i64 (z : Int)] 104)).alloc (.cells #[.string ⟨#[]⟩, .int .i64 0, .string ⟨#[]⟩, .int .i64 0] 105) = w6) := hw6.symm
        have H6 := Lib.hid (And.intro r6 (And.intro r7 b2))
        have HRD := Lib.hid hrd
        have HFo := Lib.hid hF
        have HRS := Lib.hid hRS
        have hcellk := hcell k hk
        have HXZ := Lib.hid hxz
        have HWN := Lib.hid (And.intro hw0 hw1)
        subst hA
        clear r6 r7 b2 hw6 hcell hrd hF hRS hxz hcellk hw0 hw1
        go_wp2_with fail
        rw [HW6.out]
        clear HW6 q1 q2 c49
        go_loopw [8] (fun s8 wj => (s8 = .int .i64 0 ∧ Hid (rowV wj (wo.heap.size + 1) 105 #[.string ⟨#[]⟩, .int .i64 0, .string ⟨#[]⟩, .int .i64 0] ∧ Below wo.heap.size wo wj ∧ rowV wj wo.heap.size 104 #[.string (strB x), .int .i64 (z : Int)])) ∨ (s8 = .int .i64 1 ∧ Hid (rowV wj (wo.heap.size + 1) 105 #[.string (strB x0), .int .i64 (z0 : Int), .string ⟨#[]⟩, .int .i64 0] ∧ Below wo.heap.size wo wj ∧ rowV wj wo.heap.size 104 #[.string (strB x), .int .i64 (z : Int)])) ∨ (s8 = .int .i64 2 ∧ Hid (rowV wj (wo.heap.size + 1) 105 #[.string (strB x0), .int .i64 (z0 : Int), .string (strB x1), .int .i64 (z1 : Int)] ∧ Below wo.heap.size wo wj ∧ rowV wj wo.heap.size 104 #[.string (strB x), .int .i64 (z : Int)]))) (fun s8 _ => 2 - (intOf s8).toNat)
        case atStart => exact .inl ⟨rfl, H6.out.2.1, H6.out.2.2, H6.out.1⟩
        case round =>
          clear H6
          rcases hrel with ⟨rfl, HJ⟩ | ⟨rfl, HJ⟩ | ⟨rfl, HJ⟩
          · have HS0 := HJ.out.1
            have HS1 : rowV ((wr.setCell ⟨wo.heap.size + 1, 0, none⟩ (.string ⟨#[]⟩)).setCell ⟨wo.heap.size + 1, 0 + 1, none⟩ (.int .i64 (src.length : Int))) (wo.heap.size + 1) 105 #[.string ⟨#[]⟩, .int .i64 (src.length : Int), .string ⟨#[]⟩, .int .i64 0] := (HS0.set 0 _).set (0 + 1) _
            have HB1 : Below wo.heap.size wo ((wr.setCell ⟨wo.heap.size + 1, 0, none⟩ (.string ⟨#[]⟩)).setCell ⟨wo.heap.size + 1, 0 + 1, none⟩ (.int .i64 (src.length : Int))) := (HJ.out.2.1.trans (Below.setG (w := wr) (j := 0) (Nat.le_succ wo.heap.size) _)).trans (Below.setG (j := 0 + 1) (Nat.le_succ wo.heap.size) _)
            have HR6 : rowV ((wr.setCell ⟨wo.heap.size + 1, 0, none⟩ (.string ⟨#[]⟩)).setCell ⟨wo.heap.size + 1, 0 + 1, none⟩ (.int .i64 (src.length : Int))) wo.heap.size 104 #[.string (strB x), .int .i64 (z : Int)] := (HJ.out.2.2.setFar (p := ⟨wo.heap.size + 1, 0, none⟩) (by show wo.heap.size ≠ wo.heap.size + 1; omega) _).setFar (p := ⟨wo.heap.size + 1, 0 + 1, none⟩) (by show wo.heap.size ≠ wo.heap.size + 1; omega) _
            obtain ⟨wm, hwm⟩ : ∃ wm, wm = (wr.setCell ⟨wo.heap.size + 1, 0, none⟩ (.string ⟨#[]⟩)).setCell ⟨wo.heap.size + 1, 0 + 1, none⟩ (.int .i64 (src.length : Int)) := ⟨_, rfl⟩
            rw [← hwm] at HS1 HB1 HR6
            have HWm := Lib.hid hwm
            clear hwm
            by_cases hkl : k1 < nl
            · have d2 : decide ((k1 : Int) < (nl : Int)) = true := by simp; omega
              have d2' : decide (k1 < nl) = true := by simp; omega
              obtain ⟨q1, q2⟩ := HCELL.out k1 hkl
              rw [HN1.out hkl] at q1 q2
              dsimp only at q1 q2
              replace q1 := HB1.cell (p := ⟨b, off + k1 * 2, none⟩) hbl |>.trans q1
              replace q2 := HB1.cell (p := ⟨b, off + k1 * 2 + 1, none⟩) hbl |>.trans q2
              have HS2 := Lib.hid HS1
              have HB2 := Lib.hid HB1
              have HR2 := Lib.hid HR6
              clear HS1 HB1 HR6 HS0
              go_wp2_with (first | (refine wpList_store_two rfl 104 (.tmp 36) (.tmp 35) rfl (wo.heap.size + 1) 0 (.string ⟨#[]⟩) (.int .i64 (src.length : Int)) rfl rfl HJ.out.1 (by show _ < 4; decide) infoWt (by simp [Value.oneCell']) ?_; rw [← HWm.out]) | (refine wpList_store_two rfl 104 (.tmp 52) (.tmp 51) rfl (wo.heap.size + 1) 0 (.string (strB x0)) (.int .i64 (z0 : Int)) rfl rfl HS2.out (by show _ < 4; decide) infoWt (by simp [Value.oneCell']) ?_))
              go_roundw
              case rel => exact .inr (.inl ⟨rfl, (HS2.out.set 0 _).set (0 + 1) _, (HB2.out.trans (Below.setG (w := wm) (j := 0) (Nat.le_succ wo.heap.size) _)).trans (Below.setG (j := 0 + 1) (Nat.le_succ wo.heap.size) _), (HR2.out.setFar (p := ⟨wo.heap.size + 1, 0, none⟩) (by show wo.heap.size ≠ wo.heap.size + 1; omega) _).setFar (p := ⟨wo.heap.size + 1, 0 + 1, none⟩) (by show wo.heap.size ≠ wo.heap.size + 1; omega) _⟩)
              case measure => simp [intOf]
            · have d2 : decide ((k1 : Int) < (nl : Int)) = false := by simp; omega
              have d2' : decide (k1 < nl) = false := by simp; omega
              obtain ⟨rfl, rfl⟩ := HO1.out hkl
              have HE := Lib.hid (And.intro HS1 (And.intro HB1 HR6))
              clear HS1 HB1 HR6 HS0
              go_wp2_with (refine wpList_store_two rfl 104 (.tmp 36) (.tmp 35) rfl (wo.heap.size + 1) 0 (.string ⟨#[]⟩) (.int .i64 (src.length : Int)) rfl rfl HJ.out.1 (by show _ < 4; decide) infoWt (by simp [Value.oneCell']) ?_; rw [← HWm.out])
              go_roundw
              case rel => exact .inr (.inl ⟨rfl, HE.out⟩)
              case measure => simp [intOf]
          · have HS0 := HJ.out.1
            have HS1 : rowV ((wr.setCell ⟨wo.heap.size + 1, 2, none⟩ (.string ⟨#[]⟩)).setCell ⟨wo.heap.size + 1, 2 + 1, none⟩ (.int .i64 (src.length : Int))) (wo.heap.size + 1) 105 #[.string (strB x0), .int .i64 (z0 : Int), .string ⟨#[]⟩, .int .i64 (src.length : Int)] := (HS0.set 2 _).set (2 + 1) _
            have HB1 : Below wo.heap.size wo ((wr.setCell ⟨wo.heap.size + 1, 2, none⟩ (.string ⟨#[]⟩)).setCell ⟨wo.heap.size + 1, 2 + 1, none⟩ (.int .i64 (src.length : Int))) := (HJ.out.2.1.trans (Below.setG (w := wr) (j := 2) (Nat.le_succ wo.heap.size) _)).trans (Below.setG (j := 2 + 1) (Nat.le_succ wo.heap.size) _)
            have HR6 : rowV ((wr.setCell ⟨wo.heap.size + 1, 2, none⟩ (.string ⟨#[]⟩)).setCell ⟨wo.heap.size + 1, 2 + 1, none⟩ (.int .i64 (src.length : Int))) wo.heap.size 104 #[.string (strB x), .int .i64 (z : Int)] := (HJ.out.2.2.setFar (p := ⟨wo.heap.size + 1, 2, none⟩) (by show wo.heap.size ≠ wo.heap.size + 1; omega) _).setFar (p := ⟨wo.heap.size + 1, 2 + 1, none⟩) (by show wo.heap.size ≠ wo.heap.size + 1; omega) _
            obtain ⟨wm, hwm⟩ : ∃ wm, wm = (wr.setCell ⟨wo.heap.size + 1, 2, none⟩ (.string ⟨#[]⟩)).setCell ⟨wo.heap.size + 1, 2 + 1, none⟩ (.int .i64 (src.length : Int)) := ⟨_, rfl⟩
            rw [← hwm] at HS1 HB1 HR6
            have HWm := Lib.hid hwm
            clear hwm
            by_cases hkl : k2 < nl
            · have d2 : decide ((k2 : Int) < (nl : Int)) = true := by simp; omega
              have d2' : decide (k2 < nl) = true := by simp; omega
              obtain ⟨q1, q2⟩ := HCELL.out k2 hkl
              rw [HN2.out hkl] at q1 q2
              dsimp only at q1 q2
              replace q1 := HB1.cell (p := ⟨b, off + k2 * 2, none⟩) hbl |>.trans q1
              replace q2 := HB1.cell (p := ⟨b, off + k2 * 2 + 1, none⟩) hbl |>.trans q2
              have HS2 := Lib.hid HS1
              have HB2 := Lib.hid HB1
              have HR2 := Lib.hid HR6
              clear HS1 HB1 HR6 HS0
              go_wp2_with (first | (refine wpList_store_two rfl 104 (.tmp 36) (.tmp 35) rfl (wo.heap.size + 1) 2 (.string ⟨#[]⟩) (.int .i64 (src.length : Int)) rfl rfl HJ.out.1 (by show _ < 4; decide) infoWt (by simp [Value.oneCell']) ?_; rw [← HWm.out]) | (refine wpList_store_two rfl 104 (.tmp 52) (.tmp 51) rfl (wo.heap.size + 1) 2 (.string (strB x1)) (.int .i64 (z1 : Int)) rfl rfl HS2.out (by show _ < 4; decide) infoWt (by simp [Value.oneCell']) ?_))
              go_roundw
              case rel => exact .inr (.inr ⟨rfl, (HS2.out.set 2 _).set (2 + 1) _, (HB2.out.trans (Below.setG (w := wm) (j := 2) (Nat.le_succ wo.heap.size) _)).trans (Below.setG (j := 2 + 1) (Nat.le_succ wo.heap.size) _), (HR2.out.setFar (p := ⟨wo.heap.size + 1, 2, none⟩) (by show wo.heap.size ≠ wo.heap.size + 1; omega) _).setFar (p := ⟨wo.heap.size + 1, 2 + 1, none⟩) (by show wo.heap.size ≠ wo.heap.size + 1; omega) _⟩)
              case measure => simp [intOf]
            · have d2 : decide ((k2 : Int) < (nl : Int)) = false := by simp; omega
              have d2' : decide (k2 < nl) = false := by simp; omega
              obtain ⟨rfl, rfl⟩ := HO2.out hkl
              have HE := Lib.hid (And.intro HS1 (And.intro HB1 HR6))
              clear HS1 HB1 HR6 HS0
              go_wp2_with (refine wpList_store_two rfl 104 (.tmp 36) (.tmp 35) rfl (wo.heap.size + 1) 2 (.string ⟨#[]⟩) (.int .i64 (src.length : Int)) rfl rfl HJ.out.1 (by show _ < 4; decide) infoWt (by simp [Value.oneCell']) ?_; rw [← HWm.out])
              go_roundw
              case rel => exact .inr (.inr ⟨rfl, HE.out⟩)
              case measure => simp [intOf]
          · have HI2 := Lib.hid (HI.out.below HJ.out.2.1)
            have HS := Lib.hid (HRS.out.below HJ.out.2.1)
            have hnk : v.nk ≤ 8192 := by have e := HS.out.ok.length (fun _ => rfl) (by decide); rw [List.length_map] at e; omega
            have hnn : v.nn ≤ 8 := by have e := HS.out.on.length (fun _ => rfl) (by decide); have := HFo.out.an; have := HFo.out.few; omega
            have hnl2 : v.nl ≤ 16 := by have e := HS.out.ol.length (fun _ => rfl) (by decide); have := HFo.out.locs; omega
            have hnc : s.code.length = v.nc := HS.out.oc.length (fun _ => rfl) (by decide)
            have HNC := Lib.hid hnc
            clear hnc
            have hg47 : g4 < wo.heap.size := HI.out.r4.lt
            have c60 : wr.cell? ⟨wo.heap.size, 0, none⟩ = some (.string (strB x)) := cell_rowV HJ.out.2.2 rfl
            have c61 : wr.cell? ⟨wo.heap.size, 1, none⟩ = some (.int .i64 (z : Int)) := cell_rowV HJ.out.2.2 rfl
            have m0 : (wr).cell? ⟨(wo.heap.size + 1), 0, none⟩ = some (.string (strB x0)) := cell_rowV HJ.out.1 rfl
            have m1 : (wr).cell? ⟨(wo.heap.size + 1), 1, none⟩ = some (.int .i64 (z0 : Int)) := cell_rowV HJ.out.1 rfl
            have m2 : (wr).cell? ⟨(wo.heap.size + 1), 2, none⟩ = some (.string (strB x1)) := cell_rowV HJ.out.1 rfl
            have m3 : (wr).cell? ⟨(wo.heap.size + 1), 3, none⟩ = some (.int .i64 (z1 : Int)) := cell_rowV HJ.out.1 rfl
            have s0 : (wr).cell? ⟨g4, 0, none⟩ = some (.slice v.Aa v.na v.ca) := cell_rowV HI2.out.r4 rfl
            have s1 : (wr).cell? ⟨g4, 1, none⟩ = some (.int .i64 (s.ln.length : Int)) := cell_rowV HI2.out.r4 rfl
            have s2 : (wr).cell? ⟨g4, 2, none⟩ = some (.slice v.Ac v.nc v.cc) := cell_rowV HI2.out.r4 rfl
            have s3 : (wr).cell? ⟨g4, 3, none⟩ = some (.slice v.An v.nn v.cn) := cell_rowV HI2.out.r4 rfl
            have s4 : (wr).cell? ⟨g4, 4, none⟩ = some (.slice v.Al v.nl v.cl) := cell_rowV HI2.out.r4 rfl
            have s5 : (wr).cell? ⟨g4, 5, none⟩ = some (.slice v.Ak v.nk v.ck) := cell_rowV HI2.out.r4 rfl
            have s6 : (wr).cell? ⟨g4, 6, none⟩ = some (.slice v.Av v.nv v.cv) := cell_rowV HI2.out.r4 rfl
            have s7 : (wr).cell? ⟨g4, 7, none⟩ = some (.int .i64 s.cells) := cell_rowV HI2.out.r4 rfl
            have s8 : (wr).cell? ⟨g4, 8, none⟩ = some (.int .i64 a) := cell_rowV HI2.out.r4 rfl
            have s9 : (wr).cell? ⟨g4, 9, none⟩ = some (.int .i64 0) := cell_rowV HI2.out.r4 rfl
            have f48 := frozen_rowV' HI2.out.r4 8
            have f49 := frozen_rowV' HI2.out.r4 9
            have H1 := declaresR_any x wr
            cases hd : declL4.contains x with
            | true =>
              rw [hd] at H1
              replace H1 := Lib.hid H1
              have HD := declareR_any w.heap.size wr s v src.length (ws.drop k1) a 0 HS.out HFo.out HI2.out.b.size (by omega) (HNL.out k1) (by rw [List.tail_drop, ← HK.out.2]; exact HNL.out k2) x z hd
              rw [List.tail_drop, ← HK.out.2, HWN.out.1, HWN.out.2] at HD
              replace HD := Lib.hid HD
              have HWD := Lib.hid (widthL_decl hd)
              clear hd
              go_wp2_with fail
              refine H1.out.mono ?_
              rintro e w9 ⟨rfl, hw9⟩
              obtain rfl : wr = w9 := hw9.symm
              go_wp2_with fail
              refine HD.out.mono ?_
              rintro e w9 ⟨hb9, hk9, v9, L9, C9, a9, er9, rfl, hm9⟩
              have HI9 := Lib.hid (HI2.out.kept hk9 hb9)
              have HM9 : Hid (Left w.heap.size w9 (stepL src.length (x, z) s (ws.drop k1)) v9 L9 C9 a9 er9) := hm9
              have r69 := hk9.row HJ.out.2.2 (by decide)
              have e60 : w9.cell? ⟨wo.heap.size, 0, none⟩ = some (.string (strB x)) := cell_rowV r69 rfl
              clear hm9 hb9 hk9
              have HI10 := Lib.hid (HI9.out.setRow (v' := v9) (L' := L9) (C' := C9) (a' := a9) (er' := er9))
              have HM10 : Hid (Left w.heap.size (w9.setRow g4 (stA v9 L9 C9 a9 er9)) (stepL src.length (x, z) s (ws.drop k1)) v9 L9 C9 a9 er9) := by
                have := HM9.out
                cases hst : stepL src.length (x, z) s (ws.drop k1) with
                | bad a' e' => rw [hst] at this; exact this
                | ok s' r' => rw [hst] at this; exact ⟨this.1, this.2.1, this.2.2.1, this.2.2.2.setRow HI9.out.r4 _⟩
              have r610 := r69.grown (grownBy_setRow w9 g4 (stA v9 L9 C9 a9 er9)) (fun e => by injection e with e; omega)
              have e6a : (w9.setRow g4 (stA v9 L9 C9 a9 er9)).cell? ⟨wo.heap.size, 0, none⟩ = some (.string (strB x)) := cell_rowV r610 rfl
              clear r610 r69 e60
              by_cases hl : x = [108, 111, 99, 97, 108]
              · have y4 : ((strB x).toList == ([108, 111, 99, 97, 108] : List UInt8)) = true := by rw [strB_toList, beq_dec, hl]; decide
                have hw := HWD.out.trans (if_pos hl)
                have HN := Lib.hid (HM10.out.next (m := k + 2) HK.out.1 (by omega) HXZ.out HFo.out hcn HRD.out (fun _ => by rw [hw]; have := HK.out.1; omega))
                clear hw hl
                go_wp2_with (refine wpList_store_row rfl 76 (.tmp 4) (.tmp 60) rfl g4 (stA v9 L9 C9 a9 er9) rfl rfl _ _ HI9.out.r4 infoS rfl (by simp [stA, Value.oneCell']) ?_)
                go_roundw
                case rel => exact ⟨k + 2, v9, L9, C9, a9, er9, by omega, by go_num, HI10.out, HN.out.1, HN.out.2⟩
                case measure => exact meas_lt HI.out HI10.out (.inl ⟨by simp [intOf]; omega, by omega⟩)
              · have y4 : ((strB x).toList == ([108, 111, 99, 97, 108] : List UInt8)) = false := by rw [strB_toList, beq_dec]; simpa using hl
                have hw := HWD.out.trans (if_neg hl)
                have HN := Lib.hid (HM10.out.next (m := k + 3) HK.out.1 (by omega) HXZ.out HFo.out hcn HRD.out (fun _ => by rw [hw]; have := HK.out.1; omega))
                clear hw hl
                go_wp2_with (refine wpList_store_row rfl 76 (.tmp 4) (.tmp 60) rfl g4 (stA v9 L9 C9 a9 er9) rfl rfl _ _ HI9.out.r4 infoS rfl (by simp [stA, Value.oneCell']) ?_)
                go_roundw
                case rel => exact ⟨k + 3, v9, L9, C9, a9, er9, by omega, by go_num, HI10.out, HN.out.1, HN.out.2⟩
                case measure => exact meas_lt HI.out HI10.out (.inl ⟨by simp [intOf]; omega, by omega⟩)
            | false =>
              rw [hd] at H1
              replace H1 := Lib.hid H1
              have HST := Lib.hid (stepL_instr (n := src.length) (z := z) (s := s) (r := ws.drop k1) hd)
              have HWI := Lib.hid (fun op => widthL_instr (x := x) (op := op) hd)
              clear hd
              have H2 := findR_any x wr
              cases hf : findL x with
              | none =>
                rw [show (findL x).isSome = false by rw [hf]; rfl, show findN x = 0 by unfold findN; rw [hf]] at H2
                replace H2 := Lib.hid H2
                have HM : Hid (Left w.heap.size ((wr.setCell ⟨g4, 8, none⟩ (.int .i64 (z : Int))).setCell ⟨g4, 9, none⟩ (.int .i64 4)) (stepL src.length (x, z) s (ws.drop k1)) v (s.ln.length : Int) s.cells (z : Int) 4) := by
                  show Left _ _ _ _ _ _ _ _
                  rw [HST.out, instrL_none hf]
                  exact ⟨rfl, rfl⟩
                have HN := Lib.hid (HM.out.next (m := k) HK.out.1 (by omega) HXZ.out HFo.out hcn HRD.out (fun e => absurd e (by decide)))
                have HI3 := Lib.hid ((HI2.out.setAt (z : Int)).setEr 4)
                clear hf
                go_wp2_with fail
                refine H1.out.mono ?_
                rintro e w9 ⟨rfl, hw9⟩
                obtain rfl : wr = w9 := hw9.symm
                go_wp2_with fail
                refine H2.out.mono ?_
                rintro e w9 ⟨rfl, hw9⟩
                obtain rfl : wr = w9 := hw9.symm
                go_wp2_with fail
                go_roundw
                case rel => exact ⟨k, v, _, _, _, 4, by omega, rfl, HI3.out, HN.out.1, HN.out.2⟩
                case measure => exact meas_lt HI.out HI3.out (.inr ⟨by decide, by omega⟩)
              | some op =>
                obtain ⟨h36, _⟩ := findL_some hf
                rw [show (findL x).isSome = true by rw [hf]; rfl, show findN x = (op : Int) by unfold findN; rw [hf]] at H2
                replace H2 := Lib.hid H2
                have HSI := Lib.hid (HST.out.trans (instrL_some hf))
                have HWD := Lib.hid (HWI.out op hf)
                clear hf HST HWI
                by_cases hfull : 1024 ≤ v.nc
                · have d3 : decide ((1024 : Int) ≤ (v.nc : Int)) = true := by simp; omega
                  have d3' : decide (1024 ≤ v.nc) = true := by simp; omega
                  have HM : Hid (Left w.heap.size ((wr.setCell ⟨g4, 8, none⟩ (.int .i64 (z : Int))).setCell ⟨g4, 9, none⟩ (.int .i64 6)) (stepL src.length (x, z) s (ws.drop k1)) v (s.ln.length : Int) s.cells (z : Int) 6) := by
                    show Left _ _ _ _ _ _ _ _
                    rw [HSI.out, if_pos (by rw [HNC.out]; exact hfull)]
                    exact ⟨rfl, rfl⟩
                  have HN := Lib.hid (HM.out.next (m := k) HK.out.1 (by omega) HXZ.out HFo.out hcn HRD.out (fun e => absurd e (by decide)))
                  have HI3 := Lib.hid ((HI2.out.setAt (z : Int)).setEr 6)
                  go_wp2_with fail
                  refine H1.out.mono ?_
                  rintro e w9 ⟨rfl, hw9⟩
                  obtain rfl : wr = w9 := hw9.symm
                  go_wp2_with fail
                  refine H2.out.mono ?_
                  rintro e w9 ⟨rfl, hw9⟩
                  obtain rfl : wr = w9 := hw9.symm
                  go_wp2_with fail
                  go_roundw
                  case rel => exact ⟨k, v, _, _, _, 6, by omega, rfl, HI3.out, HN.out.1, HN.out.2⟩
                  case measure => exact meas_lt HI.out HI3.out (.inr ⟨by decide, by omega⟩)
                · have d3 : decide ((1024 : Int) ≤ (v.nc : Int)) = false := by simp; omega
                  have d3' : decide (1024 ≤ v.nc) = false := by simp; omega
                  have HSJ := Lib.hid (HSI.out.trans (if_neg (by rw [HNC.out]; exact hfull)))
                  have hmc : Hid (v.nc + 1 ≤ maxLen ∧ (v.nc + 1) * 16 ≤ 140737488355328) := ⟨by simp [maxLen]; omega, by omega⟩
                  have H3 := hasArg_any (op : Int) (wr.setCell ⟨g4, 8, none⟩ (.int .i64 (z : Int)))
                  rw [opX_nat h36, arg_iff ⟨op, h36⟩] at H3
                  dsimp only at H3
                  have HI3 := Lib.hid (HI2.out.setAt (z : Int))
                  have HS3 := Lib.hid (HS.out.set HI2.out.r4 8 (.int .i64 (z : Int)))
                  have HR3 : Hid (rowV (wr.setCell ⟨g4, 8, none⟩ (.int .i64 (z : Int))) (wo.heap.size + 1) 105 #[.string (strB x0), .int .i64 (z0 : Int), .string (strB x1), .int .i64 (z1 : Int)]) := HJ.out.1.setFar (p := ⟨g4, 8, none⟩) (by show wo.heap.size + 1 ≠ g4; omega) _
                  clear HSI hfull
                  by_cases ho : op ≤ 4 ∨ op = 35
                  · rw [decide_eq_true ho] at H3
                    replace H3 := Lib.hid H3
                    have HSK := Lib.hid (HSJ.out.trans (if_pos ho))
                    have HWE := Lib.hid (HWD.out.trans (if_pos ho))
                    have HI4 := Lib.hid (HI3.out.setAt (z0 : Int))
                    have HS4 := Lib.hid (HS3.out.set HI3.out.r4 8 (.int .i64 (z0 : Int)))
                    have HL0 : Hid (x0.length ≤ 9000) := by have := HNL.out k1; rw [HWN.out.1] at this; exact this
                    have H4 := Lib.hid (operandR_any w.heap.size ((wr.setCell ⟨g4, 8, none⟩ (.int .i64 (z : Int))).setCell ⟨g4, 8, none⟩ (.int .i64 (z0 : Int))) s.arrs s.code s v (s.ln.length : Int) s.cells (z0 : Int) 0 HS4.out op ho x0 HL0.out (by omega) (by omega) (by omega))
                    have HLT := Lib.hid (argL_lt HFo.out (op := op) x0)
                    obtain ⟨an, ae, hae⟩ : ∃ an ae, argL s op x0 = (an, ae) := ⟨_, _, rfl⟩
                    rw [HWN.out.1, hae] at HSK
                    rw [hae] at H4 HLT
                    dsimp only at HSK
                    clear hae
                    have han : an < 4294967296 := HLT.out
                    clear HLT
                    go_wp2_with fail
                    refine H1.out.mono ?_
                    rintro e w9 ⟨rfl, hw9⟩
                    obtain rfl : wr = w9 := hw9.symm
                    go_wp2_with fail
                    refine H2.out.mono ?_
                    rintro e w9 ⟨rfl, hw9⟩
                    obtain rfl : wr = w9 := hw9.symm
                    go_wp2_with fail
                    refine H3.out.mono ?_
                    rintro e w9 ⟨rfl, hw9⟩
                    obtain rfl : wr.setCell ⟨g4, 8, none⟩ (.int .i64 (z : Int)) = w9 := hw9.symm
                    go_wp2_with fail
                    refine H4.out.mono ?_
                    rintro e w9 ⟨rfl, hb9⟩
                    have HI9 := Lib.hid (HI4.out.below hb9)
                    have HS9 := Lib.hid (HS4.out.below hb9)
                    have t92 : w9.cell? ⟨g4, 2, none⟩ = some (.slice v.Ac v.nc v.cc) := cell_rowV HI9.out.r4 rfl
                    have t99 : w9.cell? ⟨g4, 9, none⟩ = some (.int .i64 0) := cell_rowV HI9.out.r4 rfl
                    have tf99 := frozen_rowV' HI9.out.r4 9
                    have tf92 := frozen_rowV' HI9.out.r4 2
                    have HIa := Lib.hid (HI9.out.setEr ae)
                    have HSa := Lib.hid (HS9.out.set HI9.out.r4 9 (.int .i64 ae))
                    clear hb9
                    go_wp2_with (first | (at_builtin; refine wpList_pushT (enc := encIn) rfl (.tmp 108) (.tmp 113) rfl uIn infoIn encIn_one rfl (fun _ => rfl) (by decide) rfl HSa.out.oc HIa.out.b.size (⟨(op : Int), (an : Int)⟩ : Ins) _ rfl (by first | rfl | (simp only [setCell_size]; rfl)) hmc.out.1 hmc.out.2 ?_; intro A9 c9 w11 ho9 hb9 hg9 hf9; have r11 := HIa.out.r4.grown hg9 (fun e => (HSa.out.oc.ne_row HIa.out.r4 (by decide)) _ e.symm rfl); have t2 : w11.cell? ⟨g4, 2, none⟩ = some (.slice v.Ac v.nc v.cc) := cell_rowV r11 rfl; have tf := frozen_rowV' r11 2; clear r11))
                    have HIb := Lib.hid (HIa.out.kept ((KT.refl _).push HSa.out.oc hg9 (Nat.le_refl _) (fun t ht => ht.2.1)) hb9)
                    have HSb := Lib.hid (HSa.out.push_code ho9 hg9 hf9)
                    have HIc := Lib.hid (HIb.out.setCode A9 (v.nc + 1) c9)
                    have HSc := Lib.hid (HSb.out.set HIb.out.r4 2 (.slice A9 (v.nc + 1) c9))
                    have HM : Hid (Left w.heap.size (w11.setCell ⟨g4, 2, none⟩ (.slice A9 (v.nc + 1) c9)) (stepL src.length (x, z) s (ws.drop k1)) { v with Ac := A9, nc := v.nc + 1, cc := c9 } (s.ln.length : Int) s.cells (z0 : Int) ae) := by
                      show Left _ _ _ _ _ _ _ _
                      rw [HSK.out]
                      by_cases h0 : ae = 0
                      · rw [if_neg (by simp [h0])]
                        exact ⟨h0, rfl, rfl, HSc.out⟩
                      · rw [if_pos h0]
                        exact ⟨rfl, rfl⟩
                    have HN := Lib.hid (HM.out.next (m := k + 2) HK.out.1 (by omega) HXZ.out HFo.out hcn HRD.out (fun _ => by rw [HWE.out]; have := HK.out.1; omega))
                    go_roundw
                    case rel => exact ⟨k + 2, _, _, _, _, _, by omega, by go_num, HIc.out, HN.out.1, HN.out.2⟩
                    case measure => exact meas_lt HI.out HIc.out (.inl ⟨by simp [intOf]; omega, by omega⟩)
                  · rw [decide_eq_false ho] at H3
                    replace H3 := Lib.hid H3
                    have HSK := Lib.hid (HSJ.out.trans (if_neg ho))
                    have HWE := Lib.hid (HWD.out.trans (if_neg ho))
                    have t92 : (wr.setCell ⟨g4, 8, none⟩ (.int .i64 (z : Int))).cell? ⟨g4, 2, none⟩ = some (.slice v.Ac v.nc v.cc) := cell_rowV HI3.out.r4 rfl
                    go_wp2_with fail
                    refine H1.out.mono ?_
                    rintro e w9 ⟨rfl, hw9⟩
                    obtain rfl : wr = w9 := hw9.symm
                    go_wp2_with fail
                    refine H2.out.mono ?_
                    rintro e w9 ⟨rfl, hw9⟩
                    obtain rfl : wr = w9 := hw9.symm
                    go_wp2_with fail
                    refine H3.out.mono ?_
                    rintro e w9 ⟨rfl, hw9⟩
                    obtain rfl : wr.setCell ⟨g4, 8, none⟩ (.int .i64 (z : Int)) = w9 := hw9.symm
                    go_wp2_with (first | (at_builtin; refine wpList_pushT (enc := encIn) rfl (.tmp 108) (.tmp 113) rfl uIn infoIn encIn_one rfl (fun _ => rfl) (by decide) rfl HS3.out.oc HI3.out.b.size (⟨(op : Int), (0 : Int)⟩ : Ins) _ rfl (by first | rfl | (simp only [setCell_size]; rfl)) hmc.out.1 hmc.out.2 ?_; intro A9 c9 w11 ho9 hb9 hg9 hf9; have r11 := HI3.out.r4.grown hg9 (fun e => (HS3.out.oc.ne_row HI3.out.r4 (by decide)) _ e.symm rfl); have t2 : w11.cell? ⟨g4, 2, none⟩ = some (.slice v.Ac v.nc v.cc) := cell_rowV r11 rfl; have tf := frozen_rowV' r11 2; clear r11))
                    have HIb := Lib.hid (HI3.out.kept ((KT.refl _).push HS3.out.oc hg9 (Nat.le_refl _) (fun t ht => ht.2.1)) hb9)
                    have HSb := Lib.hid (HS3.out.push_code ho9 hg9 hf9)
                    have HIc := Lib.hid (HIb.out.setCode A9 (v.nc + 1) c9)
                    have HSc := Lib.hid (HSb.out.set HIb.out.r4 2 (.slice A9 (v.nc + 1) c9))
                    have HM : Hid (Left w.heap.size (w11.setCell ⟨g4, 2, none⟩ (.slice A9 (v.nc + 1) c9)) (stepL src.length (x, z) s (ws.drop k1)) { v with Ac := A9, nc := v.nc + 1, cc := c9 } (s.ln.length : Int) s.cells (z : Int) 0) := by
                      show Left _ _ _ _ _ _ _ _
                      rw [HSK.out]
                      exact ⟨rfl, rfl, rfl, HSc.out⟩
                    have HN := Lib.hid (HM.out.next (m := k + 1) HK.out.1 (by omega) HXZ.out HFo.out hcn HRD.out (fun _ => by rw [HWE.out]; have := HK.out.1; omega))
                    go_roundw
                    case rel => exact ⟨k + 1, _, _, _, _, _, by omega, by go_num, HIc.out, HN.out.1, HN.out.2⟩
                    case measure => exact meas_lt HI.out HIc.out (.inl ⟨by simp [intOf]; omega, by omega⟩)
      · have c49 : wo.cell? ⟨g4, 9, none⟩ = some (.int .i64 er) := cell_rowV HI.out.r4 rfl
        have d9 : (er == 0) = false := by simpa using he
        have HFIN : Hid (RdF w.heap.size (wo.setRow w.heap.size #[.slice v.Aa v.na v.ca, .int .i64 L, .slice v.Ac v.nc v.cc, .slice v.An v.nn v.cn, .slice v.Al v.nl v.cl, .slice v.Ak v.nk v.ck, .slice v.Av v.nv v.cv, .int .i64 C, .int .i64 a, .int .i64 er]) R v L C a er) := by
          show RdF _ _ _ _ _ _ _ _
          obtain ⟨a', h1, h2⟩ := HDe.out he
          rw [h2]
          exact ⟨h1, rfl⟩
        clear HAl HDe he
        have s0 : (wo).cell? ⟨g4, 0, none⟩ = some (.slice v.Aa v.na v.ca) := cell_rowV HI.out.r4 rfl
        have s1 : (wo).cell? ⟨g4, 1, none⟩ = some (.int .i64 L) := cell_rowV HI.out.r4 rfl
        have s2 : (wo).cell? ⟨g4, 2, none⟩ = some (.slice v.Ac v.nc v.cc) := cell_rowV HI.out.r4 rfl
        have s3 : (wo).cell? ⟨g4, 3, none⟩ = some (.slice v.An v.nn v.cn) := cell_rowV HI.out.r4 rfl
        have s4 : (wo).cell? ⟨g4, 4, none⟩ = some (.slice v.Al v.nl v.cl) := cell_rowV HI.out.r4 rfl
        have s5 : (wo).cell? ⟨g4, 5, none⟩ = some (.slice v.Ak v.nk v.ck) := cell_rowV HI.out.r4 rfl
        have s6 : (wo).cell? ⟨g4, 6, none⟩ = some (.slice v.Av v.nv v.cv) := cell_rowV HI.out.r4 rfl
        have s7 : (wo).cell? ⟨g4, 7, none⟩ = some (.int .i64 C) := cell_rowV HI.out.r4 rfl
        have s8 : (wo).cell? ⟨g4, 8, none⟩ = some (.int .i64 a) := cell_rowV HI.out.r4 rfl
        have s9 : (wo).cell? ⟨g4, 9, none⟩ = some (.int .i64 er) := cell_rowV HI.out.r4 rfl
        go_wp2_with (refine wpList_store_row rfl 76 (.tmp 2) (.tmp 117) rfl w.heap.size #[.slice v.Aa v.na v.ca, .int .i64 L, .slice v.Ac v.nc v.cc, .slice v.An v.nn v.cn, .slice v.Al v.nl v.cl, .slice v.Ak v.nk v.ck, .slice v.Av v.nv v.cv, .int .i64 C, .int .i64 a, .int .i64 er] rfl rfl _ _ HI.out.r2 infoS rfl (by simp [Value.oneCell']) ?_)
        have r7 : rowV (wo.setRow w.heap.size #[.slice v.Aa v.na v.ca, .int .i64 L, .slice v.Ac v.nc v.cc, .slice v.An v.nn v.cn, .slice v.Al v.nl v.cl, .slice v.Ak v.nk v.ck, .slice v.Av v.nv v.cv, .int .i64 C, .int .i64 a, .int .i64 er]) w.heap.size 76 #[.slice v.Aa v.na v.ca, .int .i64 L, .slice v.Ac v.nc v.cc, .slice v.An v.nn v.cn, .slice v.Al v.nl v.cl, .slice v.Ak v.nk v.ck, .slice v.Av v.nv v.cv, .int .i64 C, .int .i64 a, .int .i64 er] := setRow_heap wo w.heap.size _ #[.slice v.Aa v.na v.ca, .int .i64 L, .slice v.Ac v.nc v.cc, .slice v.An v.nn v.cn, .slice v.Al v.nl v.cl, .slice v.Ak v.nk v.ck, .slice v.Av v.nv v.cv, .int .i64 C, .int .i64 a, .int .i64 er] _ _ HI.out.r2
        have hbW : Below w.heap.size w (wo.setRow w.heap.size #[.slice v.Aa v.na v.ca, .int .i64 L, .slice v.Ac v.nc v.cc, .slice v.An v.nn v.cn, .slice v.Al v.nl v.cl, .slice v.Ak v.nk v.ck, .slice v.Av v.nv v.cv, .int .i64 C, .int .i64 a, .int .i64 er]) := HI.out.b.trans (Below.setRowG (Below.refl _ _) (Nat.le_refl _) _)
        refine bodyPost_ret (v := .agg #[.slice v.Aa v.na v.ca, .int .i64 L, .slice v.Ac v.nc v.cc, .slice v.An v.nn v.cn, .slice v.Al v.nl v.cl, .slice v.Ak v.nk v.ck, .slice v.Av v.nv v.cv, .int .i64 C, .int .i64 a, .int .i64 er]) ?_ rfl ⟨hbW, v, L, C, a, er, rfl, HFIN.out⟩
        obtain ⟨W7, hW7⟩ : ∃ W7, W7 = (wo.setRow w.heap.size #[.slice v.Aa v.na v.ca, .int .i64 L, .slice v.Ac v.nc v.cc, .slice v.An v.nn v.cn, .slice v.Al v.nl v.cl, .slice v.Ak v.nk v.ck, .slice v.Av v.nv v.cv, .int .i64 C, .int .i64 a, .int .i64 er]) := ⟨_, rfl⟩
        rw [← hW7] at r7 ⊢
        have k0 : (W7).cell? ⟨w.heap.size, 0, none⟩ = some (.slice v.Aa v.na v.ca) := cell_rowV r7 rfl
        have k1 : (W7).cell? ⟨w.heap.size, 1, none⟩ = some (.int .i64 L) := cell_rowV r7 rfl
        have k2 : (W7).cell? ⟨w.heap.size, 2, none⟩ = some (.slice v.Ac v.nc v.cc) := cell_rowV r7 rfl
        have k3 : (W7).cell? ⟨w.heap.size, 3, none⟩ = some (.slice v.An v.nn v.cn) := cell_rowV r7 rfl
        have k4 : (W7).cell? ⟨w.heap.size, 4, none⟩ = some (.slice v.Al v.nl v.cl) := cell_rowV r7 rfl
        have k5 : (W7).cell? ⟨w.heap.size, 5, none⟩ = some (.slice v.Ak v.nk v.ck) := cell_rowV r7 rfl
        have k6 : (W7).cell? ⟨w.heap.size, 6, none⟩ = some (.slice v.Av v.nv v.cv) := cell_rowV r7 rfl
        have k7 : (W7).cell? ⟨w.heap.size, 7, none⟩ = some (.int .i64 C) := cell_rowV r7 rfl
        have k8 : (W7).cell? ⟨w.heap.size, 8, none⟩ = some (.int .i64 a) := cell_rowV r7 rfl
        have k9 : (W7).cell? ⟨w.heap.size, 9, none⟩ = some (.int .i64 er) := cell_rowV r7 rfl
        clear hW7 hbW
        simp [results, Tryd.results29, go_sem, k0, k1, k2, k3, k4, k5, k6, k7, k8, k9]
    · have d1 : decide ((k : Int) < (nl : Int)) = false := by simp; omega
      have d1' : decide (k < nl) = false := by simp; omega
      have HFIN : Hid (RdF w.heap.size (wo.setRow w.heap.size #[.slice v.Aa v.na v.ca, .int .i64 L, .slice v.Ac v.nc v.cc, .slice v.An v.nn v.cn, .slice v.Al v.nl v.cl, .slice v.Ak v.nk v.ck, .slice v.Av v.nv v.cv, .int .i64 C, .int .i64 a, .int .i64 er]) R v L C a er) := by
        show RdF _ _ _ _ _ _ _ _
        by_cases he : er = 0
        · obtain ⟨s, hL, hC, hRS, hF, hcn, hrd⟩ := HAl.out he
          rw [List.drop_of_length_le (by omega), readW_nil] at hrd
          rw [← hrd]
          exact ⟨he, hL, hC, hRS.setRow HI.out.r2 _, hF⟩
        · obtain ⟨a', h1, h2⟩ := HDe.out he
          rw [h2]
          exact ⟨h1, rfl⟩
      clear HAl HDe
      have s0 : (wo).cell? ⟨g4, 0, none⟩ = some (.slice v.Aa v.na v.ca) := cell_rowV HI.out.r4 rfl
      have s1 : (wo).cell? ⟨g4, 1, none⟩ = some (.int .i64 L) := cell_rowV HI.out.r4 rfl
      have s2 : (wo).cell? ⟨g4, 2, none⟩ = some (.slice v.Ac v.nc v.cc) := cell_rowV HI.out.r4 rfl
      have s3 : (wo).cell? ⟨g4, 3, none⟩ = some (.slice v.An v.nn v.cn) := cell_rowV HI.out.r4 rfl
      have s4 : (wo).cell? ⟨g4, 4, none⟩ = some (.slice v.Al v.nl v.cl) := cell_rowV HI.out.r4 rfl
      have s5 : (wo).cell? ⟨g4, 5, none⟩ = some (.slice v.Ak v.nk v.ck) := cell_rowV HI.out.r4 rfl
      have s6 : (wo).cell? ⟨g4, 6, none⟩ = some (.slice v.Av v.nv v.cv) := cell_rowV HI.out.r4 rfl
      have s7 : (wo).cell? ⟨g4, 7, none⟩ = some (.int .i64 C) := cell_rowV HI.out.r4 rfl
      have s8 : (wo).cell? ⟨g4, 8, none⟩ = some (.int .i64 a) := cell_rowV HI.out.r4 rfl
      have s9 : (wo).cell? ⟨g4, 9, none⟩ = some (.int .i64 er) := cell_rowV HI.out.r4 rfl
      go_wp2_with (refine wpList_store_row rfl 76 (.tmp 2) (.tmp 117) rfl w.heap.size #[.slice v.Aa v.na v.ca, .int .i64 L, .slice v.Ac v.nc v.cc, .slice v.An v.nn v.cn, .slice v.Al v.nl v.cl, .slice v.Ak v.nk v.ck, .slice v.Av v.nv v.cv, .int .i64 C, .int .i64 a, .int .i64 er] rfl rfl _ _ HI.out.r2 infoS rfl (by simp [Value.oneCell']) ?_)
      have r7 : rowV (wo.setRow w.heap.size #[.slice v.Aa v.na v.ca, .int .i64 L, .slice v.Ac v.nc v.cc, .slice v.An v.nn v.cn, .slice v.Al v.nl v.cl, .slice v.Ak v.nk v.ck, .slice v.Av v.nv v.cv, .int .i64 C, .int .i64 a, .int .i64 er]) w.heap.size 76 #[.slice v.Aa v.na v.ca, .int .i64 L, .slice v.Ac v.nc v.cc, .slice v.An v.nn v.cn, .slice v.Al v.nl v.cl, .slice v.Ak v.nk v.ck, .slice v.Av v.nv v.cv, .int .i64 C, .int .i64 a, .int .i64 er] := setRow_heap wo w.heap.size _ #[.slice v.Aa v.na v.ca, .int .i64 L, .slice v.Ac v.nc v.cc, .slice v.An v.nn v.cn, .slice v.Al v.nl v.cl, .slice v.Ak v.nk v.ck, .slice v.Av v.nv v.cv, .int .i64 C, .int .i64 a, .int .i64 er] _ _ HI.out.r2
      have hbW : Below w.heap.size w (wo.setRow w.heap.size #[.slice v.Aa v.na v.ca, .int .i64 L, .slice v.Ac v.nc v.cc, .slice v.An v.nn v.cn, .slice v.Al v.nl v.cl, .slice v.Ak v.nk v.ck, .slice v.Av v.nv v.cv, .int .i64 C, .int .i64 a, .int .i64 er]) := HI.out.b.trans (Below.setRowG (Below.refl _ _) (Nat.le_refl _) _)
      refine bodyPost_ret (v := .agg #[.slice v.Aa v.na v.ca, .int .i64 L, .slice v.Ac v.nc v.cc, .slice v.An v.nn v.cn, .slice v.Al v.nl v.cl, .slice v.Ak v.nk v.ck, .slice v.Av v.nv v.cv, .int .i64 C, .int .i64 a, .int .i64 er]) ?_ rfl ⟨hbW, v, L, C, a, er, rfl, HFIN.out⟩
      obtain ⟨W7, hW7⟩ : ∃ W7, W7 = (wo.setRow w.heap.size #[.slice v.Aa v.na v.ca, .int .i64 L, .slice v.Ac v.nc v.cc, .slice v.An v.nn v.cn, .slice v.Al v.nl v.cl, .slice v.Ak v.nk v.ck, .slice v.Av v.nv v.cv, .int .i64 C, .int .i64 a, .int .i64 er]) := ⟨_, rfl⟩
      rw [← hW7] at r7 ⊢
      have k0 : (W7).cell? ⟨w.heap.size, 0, none⟩ = some (.slice v.Aa v.na v.ca) := cell_rowV r7 rfl
      have k1 : (W7).cell? ⟨w.heap.size, 1, none⟩ = some (.int .i64 L) := cell_rowV r7 rfl
      have k2 : (W7).cell? ⟨w.heap.size, 2, none⟩ = some (.slice v.Ac v.nc v.cc) := cell_rowV r7 rfl
      have k3 : (W7).cell? ⟨w.heap.size, 3, none⟩ = some (.slice v.An v.nn v.cn) := cell_rowV r7 rfl
      have k4 : (W7).cell? ⟨w.heap.size, 4, none⟩ = some (.slice v.Al v.nl v.cl) := cell_rowV r7 rfl
      have k5 : (W7).cell? ⟨w.heap.size, 5, none⟩ = some (.slice v.Ak v.nk v.ck) := cell_rowV r7 rfl
      have k6 : (W7).cell? ⟨w.heap.size, 6, none⟩ = some (.slice v.Av v.nv v.cv) := cell_rowV r7 rfl
      have k7 : (W7).cell? ⟨w.heap.size, 7, none⟩ = some (.int .i64 C) := cell_rowV r7 rfl
      have k8 : (W7).cell? ⟨w.heap.size, 8, none⟩ = some (.int .i64 a) := cell_rowV r7 rfl
      have k9 : (W7).cell? ⟨w.heap.size, 9, none⟩ = some (.int .i64 er) := cell_rowV r7 rfl
      clear hW7 hbW
      simp [results, Tryd.results29, go_sem, k0, k1, k2, k3, k4, k5, k6, k7, k8, k9]
end Go.Proofs.YtlbhggjkcfcobaaDoor
