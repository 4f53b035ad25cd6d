/- The walk of bytes.FieldsFunc at the words' predicate. (After the shelf's walk of strings.FieldsFunc.) -/
import Derived.Test.YtdebhdopginllaaDoorFc
import Derived.Test.YtdebhdopginllaaDoorKs
import Derived.Deep.LoopGhost
import Derived.Deep.CutBlock
import Derived.Deep.DeepCutAuto
import Derived.Laws.MakeOwn
import Derived.Deep.DeepMust
import Derived.Deep.DeepFit
namespace Go.Proofs.YtdebhdopginllaaDoor
open Go.RowKit Go.Proofs
set_option linter.unusedVariables false
attribute [local go_sem] Oper.semAt_some

def encP (p : Nat × Nat) : List Value := [.int .i64 (p.1 : Int), .int .i64 (p.2 : Int)]
theorem encP_len (p : Nat × Nat) : (encP p).length = 2 := rfl
theorem encP_one : ∀ p, ∀ u ∈ encP p, u.oneCell' = true := by
  intro p u hu
  simp [encP] at hu
  rcases hu with rfl | rfl <;> rfl
theorem uP : Tryd.prog.underlying 70 = some (.slice 74) := by kernel_rfl
theorem infoP : (Tryd.prog.info? 74).map (fun i => (i.zero, i.size, i.bytes)) = some (some (.agg #[.int .i64 0, .int .i64 0]), 2, 16) := by kernel_rfl
theorem uBB : Tryd.prog.underlying 30 = some (.slice 22) := by kernel_rfl
theorem infoBs : (Tryd.prog.info? 22).map (fun i => (i.zero, i.size, i.bytes)) = some (some (id (.slice none 0 0)), 1, 24) := by kernel_rfl
/-- the slice that a span makes. -/
def spV (A : Option Addr) (p : Nat × Nat) : Value := .slice (if p.2 = p.1 then A else A.map (·.add p.1)) (p.2 - p.1) (p.2 - p.1)
def stZ : Option Nat → Int
  | none => -1
  | some s => s
/-- the row of slices when i of them are laid. -/
def rowV (A : Option Addr) (SP : List (Nat × Nat)) (i : Nat) : List Value := (SP.take i).map (spV A) ++ List.replicate (SP.length - i) (.slice none 0 0)
theorem rowV_zero (A : Option Addr) (SP : List (Nat × Nat)) : rowV A SP 0 = List.replicate SP.length (.slice none 0 0) := by simp [rowV]
theorem rowV_all (A : Option Addr) (SP : List (Nat × Nat)) : rowV A SP SP.length = SP.map (spV A) := by simp [rowV]
theorem rowV_length (A : Option Addr) (SP : List (Nat × Nat)) {i : Nat} (hi : i ≤ SP.length) : (rowV A SP i).length = SP.length := by simp [rowV]; omega
theorem rowV_set (A : Option Addr) (SP : List (Nat × Nat)) (d : Nat × Nat) {i : Nat} (h : i < SP.length) : (rowV A SP i).set i (spV A (SP.getD i d)) = rowV A SP (i + 1) := by
  unfold rowV
  obtain ⟨z, hz⟩ : ∃ z, SP.length - i = z + 1 := ⟨SP.length - i - 1, by omega⟩
  have hl : ((SP.take i).map (spV A)).length = i := by simp; omega
  rw [hz, List.set_append_right _ _ (by rw [hl]; exact Nat.le_refl _), hl, Nat.sub_self, List.replicate_succ, List.set_cons_zero, show SP.length - (i + 1) = z by omega, List.take_add_one, List.map_append, List.append_assoc]
  simp [List.getD, h]

set_option maxHeartbeats 4000000 in
set_option maxRecDepth 1000000 in
theorem fields_any (A : Option Addr) (c n : Nat) (bs : List UInt8) (w : World) (hx : Bytes w A n c bs) (hn : n ≤ 1000000000) (hT : Tabs w) :
    Calls Tryd.prog 27 #[.slice A n c, .func (.func 28) #[] #[]] w fun e w' => ∃ g, e = .returned (.slice (some ⟨g, 0, none⟩) (closeF bs n).length (closeF bs n).length) ∧ w.heap.size ≤ g ∧
      Row id w' g 22 ((closeF bs n).map (spV A)) ∧ Below w.heap.size w w' := by
  obtain ⟨i0, hi, hz0, hz1, hz2⟩ := info_parts infoP
  obtain ⟨W0, hmk, hown0, hg0⟩ := run_make_own (P := Tryd.prog) w w.heap.size 70 74 i0 _ 2 uP hi hz0 hz1 .i64 .i64 32 (by rw [hz2]; decide) (by unfold maxLen; decide) (Nat.le_refl _)
  rw [show ((32 : Nat) : Int) = 32 from rfl] at hmk
  have hb0 : Below w.heap.size w W0 := (Below.refl _ w).grown hg0 (Nat.le_refl _) (fun k hk => by cases hk)
  have Hx := Lib.hid hx; clear hx
  have HT := Lib.hid hT; clear hT
  have Hown0 : Hid (OwnS encP 2 W0 w.heap.size 74 (some ⟨w.heap.size, 0, none⟩) 0 32 []) := hown0
  clear hown0
  go_enter Tryd.func27, Tryd.ntmps27
  go_wp2_with fail
  go_loopg [5, 6, 7] n (fun gf s5 s6 s7 wx => ∃ (i : Nat) (A5 : Option Addr) (c5 : Nat), s5 = .slice A5 (stF bs i).1.length c5 ∧ s6 = .int .i64 (stZ (stF bs i).2) ∧ s7 = .int .i64 (i : Int) ∧ i ≤ n ∧ n ≤ i + gf ∧
      Hid (OwnS encP 2 wx w.heap.size 74 A5 (stF bs i).1.length c5 (stF bs i).1) ∧ Below w.heap.size w wx)
  case atStart => exact ⟨0, _, _, rfl, rfl, rfl, Nat.zero_le _, by omega, Hown0, hb0⟩
  case round =>
    obtain ⟨i, A5, c5, rfl, rfl, rfl, hin, hgn, Hown, hbw⟩ := hrel
    obtain ⟨hi1, hi2, hi3⟩ := stF_in bs i (by rw [Hx.out.1]; exact hin)
    obtain ⟨z, hz⟩ : ∃ z, stZ (stF bs i).2 = z := ⟨_, rfl⟩
    rw [hz]
    by_cases hlt : i < n
    · obtain ⟨g', rfl⟩ : ∃ g', gk = g' + 1 := ⟨gk - 1, by omega⟩
      obtain ⟨A', r1, v1⟩ := Bytes.cut_l tB eB sB (Hx.out.below hbw) (i : Int) (by omega) (by omega)
      rw [Int.toNat_natCast] at r1 v1
      have cD := decode_any A' _ _ _ wr v1 (HT.out.below hbw) (by omega)
      obtain ⟨k1, k2, k3, k4, k5⟩ := rune_step (bs := bs) (i := i) (by rw [Hx.out.1]; exact hlt)
      rw [Hx.out.1] at k2
      obtain ⟨R, hR⟩ : ∃ R, (runeL (bs.drop i)).1 = R := ⟨_, rfl⟩
      obtain ⟨K, hK⟩ : ∃ K, (runeL (bs.drop i)).2 = K := ⟨_, rfl⟩
      rw [hR, hK] at cD
      rw [hR] at k4
      rw [hK] at k1 k2 k3
      rw [hR, hK] at k5
      have HcD := Lib.hid cD; clear cD v1
      by_cases hl : letterI (R : Int) = true
      · have d1 : (!letterI (R : Int)) = false := by rw [hl]; rfl
        rw [if_pos hl] at k5
        have Hk5 := Lib.hid k5; clear k5 hl
        rcases hst : (stF bs i).2 with _ | a
        · obtain rfl : z = -1 := by rw [← hz, hst]; rfl
          clear hz
          go_wp2_with (first
            | (refine HcD.out.mono ?_; rintro e W1 ⟨rfl, hb1⟩)
            | (refine (notLetter_any (R : Int) _).mono ?_; rw [d1]; rintro e W2 ⟨rfl, hw2⟩; obtain rfl := hw2))
          go_roundg g'
          case measure => omega
          case rel =>
            have e1 : stF bs (i + K) = ((stF bs i).1, some i) := by rw [Hk5.out, hst]; rfl
            exact ⟨i + K, A5, c5, by rw [e1], by rw [e1]; rfl, by go_num, k2, by omega, by rw [e1]; exact Hown.out.below hb1, hbw.trans (hb1.mono hbw.size)⟩
        · obtain rfl : z = (a : Int) := by rw [← hz, hst]; rfl
          clear hz
          have ha := hi3 a hst
          go_wp2_with (first
            | (refine HcD.out.mono ?_; rintro e W1 ⟨rfl, hb1⟩)
            | (refine (notLetter_any (R : Int) _).mono ?_; rw [d1]; rintro e W2 ⟨rfl, hw2⟩; obtain rfl := hw2))
          go_roundg g'
          case measure => omega
          case rel =>
            have e1 : stF bs (i + K) = ((stF bs i).1, some a) := by rw [Hk5.out, hst]; rfl
            exact ⟨i + K, A5, c5, by rw [e1], by rw [e1]; rfl, by go_num, k2, by omega, by rw [e1]; exact Hown.out.below hb1, hbw.trans (hb1.mono hbw.size)⟩
      · have d1 : (!letterI (R : Int)) = true := by simpa using hl
        rw [if_neg hl] at k5
        have Hk5 := Lib.hid k5; clear k5 hl
        rcases hst : (stF bs i).2 with _ | a
        · obtain rfl : z = -1 := by rw [← hz, hst]; rfl
          clear hz
          go_wp2_with (first
            | (refine HcD.out.mono ?_; rintro e W1 ⟨rfl, hb1⟩)
            | (refine (notLetter_any (R : Int) _).mono ?_; rw [d1]; rintro e W2 ⟨rfl, hw2⟩; obtain rfl := hw2))
          go_roundg g'
          case measure => omega
          case rel =>
            have e1 : stF bs (i + K) = ((stF bs i).1, none) := by rw [Hk5.out, closeF, hst]
            exact ⟨i + K, A5, c5, by rw [e1], by rw [e1]; rfl, by go_num, k2, by omega, by rw [e1]; exact Hown.out.below hb1, hbw.trans (hb1.mono hbw.size)⟩
        · obtain rfl : z = (a : Int) := by rw [← hz, hst]; rfl
          clear hz
          have ha := hi3 a hst
          have m1 : (stF bs i).1.length + 1 ≤ maxLen := by unfold maxLen; omega
          have m2 : ((stF bs i).1.length + 1) * 16 ≤ 140737488355328 := by omega
          go_wp2_with (first
            | (refine HcD.out.mono ?_; rintro e W1 ⟨rfl, hb1⟩)
            | (refine (notLetter_any (R : Int) _).mono ?_; rw [d1]; rintro e W2 ⟨rfl, hw2⟩; obtain rfl := hw2)
            | (at_builtin; go_must (refine wpList_pushS (enc := encP) (sz := 2) (B := w.heap.size) rfl (.tmp 30) (.tmp 34) rfl uP infoP encP_one rfl encP_len (by decide) rfl (Hown.out.below hb1) (Nat.le_trans hbw.size hb1.size) (a, i) _ rfl rfl m1 m2 ?_; intro A6 c6 W6 ho6 hb6 hg6)))
          go_roundg g'
          case measure => omega
          case rel =>
            have e1 : stF bs (i + K) = ((stF bs i).1 ++ [(a, i)], none) := by rw [Hk5.out, closeF, hst]
            have e2 : ((stF bs i).1 ++ [(a, i)]).length = (stF bs i).1.length + 1 := by simp
            exact ⟨i + K, A6, c6, by rw [e1, e2], by rw [e1]; rfl, by go_num, k2, by omega, by rw [e1, e2]; exact ho6, (hbw.trans (hb1.mono hbw.size)).trans hb6⟩
    · obtain rfl : i = n := by omega
      obtain ⟨hokS, hlenS⟩ := closeF_in bs
      rw [Hx.out.1] at hokS hlenS
      clear hin
      go_upto_if 43 with fail
      go_cut [5] (fun s5 wx => ∃ (A5 : Option Addr) (c5 : Nat), s5 = .slice A5 (closeF bs i).length c5 ∧ Hid (OwnS encP 2 wx w.heap.size 74 A5 (closeF bs i).length c5 (closeF bs i)) ∧ Below w.heap.size w wx)
      case first =>
        rcases hst : (stF bs i).2 with _ | a
        · obtain rfl : z = -1 := by rw [← hz, hst]; rfl
          clear hz
          have e1 : closeF bs i = (stF bs i).1 := by rw [closeF, hst]
          go_wp2_with fail
          go_meet
          exact ⟨A5, c5, by rw [e1], by rw [e1]; exact Hown, hbw⟩
        · obtain rfl : z = (a : Int) := by rw [← hz, hst]; rfl
          clear hz
          have ha := hi3 a hst
          have e1 : closeF bs i = (stF bs i).1 ++ [(a, i)] := by rw [closeF, hst]
          have e2 : (closeF bs i).length = (stF bs i).1.length + 1 := by rw [e1]; simp
          have m1 : (stF bs i).1.length + 1 ≤ maxLen := by unfold maxLen; omega
          have m2 : ((stF bs i).1.length + 1) * 16 ≤ 140737488355328 := by omega
          go_wp2_with (at_builtin; go_must (refine wpList_pushS (enc := encP) (sz := 2) (B := w.heap.size) rfl (.tmp 44) (.tmp 49) rfl uP infoP encP_one rfl encP_len (by decide) rfl Hown.out hbw.size (a, i) _ rfl rfl m1 m2 ?_; intro A6 c6 W6 ho6 hb6 hg6))
          go_wp2_with fail
          go_meet
          exact ⟨A6, c6, by rw [e2], by rw [e2, e1]; exact ho6, hbw.trans hb6⟩
      case rest =>
        obtain ⟨A6, c6, rfl, Hown6, hb6⟩ := hcut
        obtain ⟨SP, hSP⟩ : ∃ SP, closeF bs i = SP := ⟨_, rfl⟩
        rw [hSP] at Hown6 hokS hlenS ⊢
        clear Hown hi1 hi2 hi3 hz hbw
        have hmk5 : ∀ W : World, (Instr.makeSlice 30 (.int .i64 (SP.length : Int)) (.int .i64 (SP.length : Int))).run Tryd.prog W = .ok (.slice (some ⟨W.heap.size, 0, none⟩) SP.length SP.length) (W.alloc (rowObj id 22 (List.replicate SP.length (.slice none 0 0)))) := fun W => by
          have := run_make_row (P := Tryd.prog) (enc := id) uBB infoBs rfl (SP.length : Int) (by omega) (by omega) (by omega) W
          rwa [Int.toNat_natCast] at this
        have HSP := Lib.hid hSP; clear hSP
        have HokS := Lib.hid hokS; clear hokS
        go_wp2_with fail
        go_loopg [56] SP.length (fun gf s56 wx => ∃ j : Nat, j + gf = SP.length ∧ s56 = .int .i64 (j : Int) ∧ Hid (Row id wx wc.heap.size 22 (rowV A SP j)) ∧ Below wc.heap.size wc wx)
        case atStart => exact ⟨0, by omega, rfl, by rw [rowV_zero]; exact Row.new _ _ _, (Below.refl _ _).alloc (Nat.le_refl _) _⟩
        case round =>
          obtain ⟨j, hjg, rfl, Hrow, hbr⟩ := hrel
          cases gk with
          | zero =>
            have hin : ¬ ((j : Int) < (SP.length : Int)) := by omega
            obtain rfl : j = SP.length := by omega
            go_wp2_with fail
            go_ret
            rw [HSP.out]
            exact ⟨wc.heap.size, rfl, hb6.size, by have := Hrow.out; rwa [rowV_all] at this, hb6.trans (hbr.mono hb6.size)⟩
          | succ gf =>
            have hjn : j < SP.length := by omega
            have hin : (j : Int) < (SP.length : Int) := by omega
            obtain ⟨g5, rfl, hg5, hg5', hc5⟩ := Hown6.out.get encP_len (by decide) (0, 0) (by omega)
            obtain ⟨x, hxe⟩ : ∃ x, SP.getD j (0, 0) = x := ⟨_, rfl⟩
            have hxo := HokS.out x (by rw [← hxe]; simp [List.getD, hjn])
            have hc0 : wr.cell? ⟨g5, j * 2, none⟩ = some (.int .i64 x.1) := (hbr.cell hg5').trans (hc5 j 0 _ hjn (by rw [hxe]; rfl))
            have hc1 : wr.cell? ⟨g5, j * 2 + 1, none⟩ = some (.int .i64 x.2) := (hbr.cell hg5').trans (hc5 j 1 _ hjn (by rw [hxe]; rfl))
            clear hc5
            obtain ⟨A7, hA7⟩ : ∃ A7, (if x.2 = x.1 then A else A.map (·.add x.1)) = A7 := ⟨_, rfl⟩
            have hsv : Hid (spV A x = .slice A7 (x.2 - x.1) (x.2 - x.1)) := by show _ = _; rw [← hA7]; rfl
            have r1 : ∀ W : World, (Instr.slice 22 (.slice A i c) (some (.int .i64 (x.1 : Int))) (some (.int .i64 (x.2 : Int))) (some (.int .i64 (x.2 : Int)))).run Tryd.prog W = .ok (.slice A7 (x.2 - x.1) (x.2 - x.1)) W := fun W => by
              have hcn := Hx.out.2.1
              rw [run_slice_lhm W 22 A i c tB .i64 .i64 .i64 _ _ _ (by omega) (by omega) (by omega) (by omega), eB, sB W]
              simp only [Result.andThen, sliced, Nat.mul_one, Int.toNat_natCast, hA7]
            clear hA7
            have Hrow' := Lib.hid (Hrow.out.alloc (.cells #[.int .i64 (x.1 : Int), .int .i64 (x.2 : Int)] 74))
            have hcA := Hrow'.out.cell (.slice none 0 0) (j := j) (by rw [rowV_length _ _ (by omega)]; exact hjn)
            have hfA := Hrow'.out.frozen j
            go_wp2_with fail
            go_roundg gf
            case measure => omega
            case rel =>
              have h1 := Hrow'.out.set j (spV A x)
              rw [show (rowV A SP j).set j (spV A x) = rowV A SP (j + 1) by rw [← hxe]; exact rowV_set A SP (0, 0) hjn, hsv.out] at h1
              exact ⟨j + 1, by omega, by go_num, h1, (hbr.alloc hbr.size _).setCell (Nat.le_refl _) _⟩
end Go.Proofs.YtdebhdopginllaaDoor
