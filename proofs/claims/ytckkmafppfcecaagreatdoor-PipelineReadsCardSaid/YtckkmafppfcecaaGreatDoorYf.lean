/- Numbers and words of a text: number, split. The laid variables. -/
import Derived.Test.YtckkmafppfcecaaGreatDoorYe
import Derived.Test.YtckkmafppfcecaaGreatDoorShelf
import Derived.Lib.LaidTab
import Derived.WalkSmall
import Derived.Lib.AppendIntMem
import Derived.Lib.ItoaNum
import Derived.Shelf.Strings.Split
import Derived.Shelf.Strconv.AtoiAll
namespace Go.Proofs.YtckkmafppfcecaaGreatDoor
open Go.RowKit Go.Proofs
set_option linter.unusedVariables false
set_option linter.unusedSimpArgs false

def TabI (w : World) : Prop := Lib.TabIs Tryz.prog w "internal/strconv.uint64pow10" .u64 Lib.pow10Tab
theorem TabI.below {w w' : World} (h : TabI w) (hb : Below w.heap.size w w') : TabI w' := by
  have hg : ∃ g, Tryz.prog.globalNamed "internal/strconv.uint64pow10" = some g := by
    unfold TabI Lib.TabIs World.var? at h
    cases hq : Tryz.prog.globalNamed "internal/strconv.uint64pow10" with
    | none => rw [hq] at h; cases h
    | some g => exact ⟨g, rfl⟩
  obtain ⟨g, hg⟩ := hg
  refine var?_below hb hg ?_ h
  unfold TabI Lib.TabIs World.var? at h
  rw [hg] at h
  rcases Nat.lt_or_ge g w.heap.size with hlt | hge
  · exact hlt
  · rw [Option.bind_some, Array.getElem?_eq_none hge] at h; cases h
/-- a variable that holds an error. -/
def VarE (g : Nat) (w : World) : Prop := ∃ ev, w.cell? ⟨g, 0, none⟩ = some ev ∧ (ev = .nilIface ∨ ∃ te pe, ev = .iface te pe)
theorem VarE.below {g : Nat} {w w' : World} (h : VarE g w) (hb : Below w.heap.size w w') : VarE g w' := by
  obtain ⟨ev, h1, h2⟩ := h
  exact ⟨ev, (hb.cell (p := ⟨g, 0, none⟩) (World.block_lt_of_cell? w _ h1)).trans h1, h2⟩
def VarN (g : Nat) (w : World) : Prop := ∃ m : Int, w.cell? ⟨g, 0, none⟩ = some (.int .i64 m)
theorem VarN.below {g : Nat} {w w' : World} (h : VarN g w) (hb : Below w.heap.size w w') : VarN g w' := by
  obtain ⟨m, h1⟩ := h
  exact ⟨m, (hb.cell (p := ⟨g, 0, none⟩) (World.block_lt_of_cell? w _ h1)).trans h1⟩
structure TabY (w : World) : Prop where
  ti : TabI w
  es : VarE 3 w
  er : VarE 4 w
  ml : VarN 0 w
theorem TabY.below {w w' : World} (h : TabY w) (hb : Below w.heap.size w w') : TabY w' := ⟨h.ti.below hb, h.es.below hb, h.er.below hb, h.ml.below hb⟩
theorem TabY.trans {B : Nat} {w w' : World} (h : TabY w) (hb : Below w.heap.size w w') : TabY w' := h.below hb

theorem itoa_any (n : Nat) (w : World) (hn : n ≤ 9223372036854775807) (hT : TabI w) : Calls Tryz.prog 44 #[.int .i64 (n : Int)] w fun e w' => e = .returned (.string (strB (decS n))) ∧ Below w.heap.size w w' := by
  refine (Tryz.strconv_Itoa (n : Int) (by omega) (by omega) w hT).mono ?_
  rintro e w' ⟨rfl, k, os, rfl⟩
  refine ⟨?_, ?_⟩
  · unfold Lib.itoa
    rw [if_neg (by omega), Int.toNat_natCast]
    rfl
  · exact Lib.below_grow _ w (Nat.le_refl _) k os

/-- what number returns. -/
def NumPost (s : List UInt8) (w : World) (e : Ending) (w' : World) : Prop := ∃ z : Int, e = .returned (.tuple #[.int .i64 z, .bool (numP s).isSome]) ∧ (∀ k, numP s = some k → z = (k : Int)) ∧ Below w.heap.size w w'
theorem NumPost.none {s : List UInt8} {w w' : World} {z : Int} (h : numP s = .none) (hb : Below w.heap.size w w') : NumPost s w (.returned (.tuple #[.int .i64 z, .bool false])) w' :=
  ⟨z, by rw [h]; rfl, fun n hn => by rw [h] at hn; (cases hn), hb⟩
theorem NumPost.some {s : List UInt8} {w w' : World} {k : Nat} (h : numP s = .some k) (hb : Below w.heap.size w w') : NumPost s w (.returned (.tuple #[.int .i64 (k : Int), .bool true])) w' :=
  ⟨k, by rw [h]; rfl, fun n hn => by rw [h] at hn; (injection hn with hn; rw [hn]), hb⟩
set_option maxRecDepth 100000 in
set_option maxHeartbeats 1000000 in
theorem number_any (s : List UInt8) (w : World) (hs : s.length ≤ 1000000) (hT : TabY w) : Calls Tryz.prog 40 #[.string (strB s)] w (NumPost s w) := by
  have HT := Lib.hid hT; clear hT
  cases hA : Lib.atoiAll s with
  | ok v =>
    have hC := Tryz.strconv_Atoi_ok (strB s) (by show s.length ≤ _; omega) v hA w
    have HC := Lib.hid hC
    have hB := Lib.atoiAll_bounds hA
    have HN := Lib.hid (num_of_atoi hA)
    clear hA hC
    go_enter Tryz.func40, Tryz.ntmps40
    go_wp2_with fail
    refine HC.out.mono ?_
    rintro e w1 ⟨rfl, hw1⟩
    have hb1 : Below w.heap.size w w1 := by
      rcases hw1 with rfl | ⟨t, rfl⟩
      · exact Below.refl _ _
      · exact Lib.bytesWorld_below _ _ _
    clear hw1
    by_cases h0 : 0 ≤ v
    · have d0 : decide (0 ≤ v) = true := by simpa using h0
      by_cases h1 : v ≤ 9007199254740991
      · have d1 : decide (v ≤ 9007199254740991) = true := by simpa using h1
        obtain ⟨n, rfl⟩ : ∃ n : Nat, v = (n : Int) := ⟨v.toNat, by omega⟩
        have HI := Lib.hid (itoa_any n w1 (by omega) (HT.out.ti.below hb1))
        have HB := Lib.hid hb1
        by_cases h2 : decS n = s
        · have q2 : ((strB (decS n)).toList == (strB s).toList) = true := by rw [strB_beq, decide_eq_true h2]
          have HR := HN.out
          rw [if_pos ⟨h0, h1, by rw [Int.toNat_natCast]; exact h2⟩, Int.toNat_natCast] at HR
          have HR2 := Lib.hid HR
          clear h2 HR hb1 h0 h1
          go_wp2_with fail
          refine HI.out.mono ?_
          rintro e w2 ⟨rfl, hb2⟩
          have HB2 := Lib.hid (HB.out.trans (hb2.mono HB.out.size))
          clear hb2
          go_wp2_with fail
          go_ret2
          exact NumPost.some HR2.out HB2.out
        · have q2 : ((strB (decS n)).toList == (strB s).toList) = false := by rw [strB_beq, decide_eq_false h2]
          have HR := HN.out
          rw [if_neg (by rintro ⟨-, -, h3⟩; rw [Int.toNat_natCast] at h3; exact h2 h3)] at HR
          have HR2 := Lib.hid HR
          clear h2 HR hb1 h0 h1
          go_wp2_with fail
          refine HI.out.mono ?_
          rintro e w2 ⟨rfl, hb2⟩
          have HB2 := Lib.hid (HB.out.trans (hb2.mono HB.out.size))
          clear hb2
          go_wp2_with fail
          go_ret2
          exact NumPost.none HR2.out HB2.out
      · have d1 : decide (v ≤ 9007199254740991) = false := by simpa using h1
        have HR := HN.out
        rw [if_neg (by omega)] at HR
        have HR2 := Lib.hid (And.intro HR hb1)
        clear HR hb1 h0 h1
        go_wp2_with fail
        go_ret2
        exact NumPost.none HR2.out.1 HR2.out.2
    · have d0 : decide (0 ≤ v) = false := by simpa using h0
      have HR := HN.out
      rw [if_neg (by omega)] at HR
      have HR2 := Lib.hid (And.intro HR hb1)
      clear HR hb1 h0
      go_wp2_with fail
      go_ret2
      exact NumPost.none HR2.out.1 HR2.out.2
  | range =>
    obtain ⟨ev, h1, h2⟩ := HT.out.er
    have hC := Any.strconv_Atoi_range Tryz.laysC172 (strB s) (by show s.length ≤ _; omega) hA ev w h1 h2
    have HC := Lib.hid hC
    have HN := Lib.hid (num_none (s := s) (fun v => by rw [hA]; exact fun h => by cases h))
    clear hA hC h1 h2
    go_enter Tryz.func40, Tryz.ntmps40
    go_wp2_with fail
    refine HC.out.mono ?_
    rintro e w1 ⟨N, rfl, -, -, hb1⟩
    have HB := Lib.hid hb1
    clear hb1
    go_wp2_with fail
    go_ret2
    exact NumPost.none HN.out HB.out

  | _ =>
    obtain ⟨ev, h1, h2⟩ := HT.out.es
    have hC := Any.strconv_Atoi_syntax Tryz.laysC172 (strB s) (by show s.length ≤ _; omega) hA ev w h1 h2
    have HC := Lib.hid hC
    have HN := Lib.hid (num_none (s := s) (fun v => by rw [hA]; exact fun h => by cases h))
    clear hA hC h1 h2
    go_enter Tryz.func40, Tryz.ntmps40
    go_wp2_with fail
    refine HC.out.mono ?_
    rintro e w1 ⟨N, rfl, -, -, hb1⟩
    have HB := Lib.hid hb1
    clear hb1
    go_wp2_with fail
    go_ret2
    exact NumPost.none HN.out HB.out
def encW (p : List UInt8 × Nat) : List Value := [.string (strB p.1), .int .i64 (p.2 : Int)]
theorem encW_one (x : List UInt8 × Nat) : ∀ u ∈ encW x, u.oneCell' = true := by intro u hu; simp [encW] at hu; rcases hu with rfl | rfl <;> rfl
theorem infoW : (Tryz.prog.info? 81).map (fun i => (i.zero, i.size, i.bytes)) = some (some (.agg #[.string ByteArray.empty, .int .i64 0]), 2, 24) := by kernel_rfl
theorem uW : Tryz.prog.underlying 78 = some (.slice 81) := Tryz.underlying78
theorem split_cells (w : World) (ps : List (List UInt8)) (t : TypeId) {k : Nat} (hk : k < ps.length) : (w.alloc (.cells ((ps.map strB).map Value.string).toArray t)).cell? ⟨w.heap.size, k, none⟩ = some (.string (strB (gP ps k))) := by
  refine rowV.cell (rowV.new w t _) ?_
  unfold gP
  simp [hk]

set_option maxRecDepth 100000 in
set_option maxHeartbeats 2000000 in
theorem split_any (s : List UInt8) (w : World) (hs : s.length ≤ 1000000) (hT : TabY w) : Calls Tryz.prog 37 #[.string (strB s)] w fun e w' =>
    ∃ A c, e = .returned (.slice A (wordsP s).length c) ∧ OwnS encW 2 w' w.heap.size 81 A (wordsP s).length c (wordsP s) ∧ Below w.heap.size w w' := by
  obtain ⟨m0, hm0⟩ := hT.ml
  have hC := Tryz.strings_Split (strB s) ⟨#[32]⟩ m0 w (by show s.length < _; omega) hm0 (Nat.le_refl _)
  rw [splitB_spl, ← spl_count] at hC
  have hml := spl_length s
  obtain ⟨ps, hps⟩ : ∃ ps, ps = spl s := ⟨_, rfl⟩
  have htot := tot_spl s
  have hW : Hid (wordsP s = placed ps 0) := by rw [hps]; rfl
  rw [← hps] at hC hml htot
  have HC := Lib.hid hC
  clear hC hm0 hps hT
  rw [hW.out]
  go_enter Tryz.func37, Tryz.ntmps37
  go_wp2_with fail
  refine HC.out.mono ?_
  rintro e w1 ⟨rfl, hw1⟩
  have hcell : ∀ k, k < ps.length → w1.cell? ⟨w.heap.size, k, none⟩ = some (.string (strB (gP ps k))) := fun k hk => by rw [hw1]; exact split_cells w ps _ hk
  have hb1 : Below w.heap.size w w1 := by rw [hw1]; exact balloc (Below.refl _ _) _
  have hl1 : w.heap.size < w1.heap.size := by rw [hw1, World.size_alloc]; omega
  have HB1 := Lib.hid hb1
  have HCL := Lib.hid hcell
  obtain ⟨m, hm⟩ : ∃ m, m = ps.length := ⟨_, rfl⟩
  rw [← hm] at hml HCL
  have Hm := Lib.hid hm
  clear HC hw1 hb1 hcell hm
  rw [← Hm.out]
  go_wp2_with fail
  go_loopw [3, 4, 6, 10] (fun o q _ i wr => ∃ (k n3 c3 : Nat) (A3 : Option Addr), k ≤ m ∧ i = .int .i64 (k : Int) ∧ q = .int .i64 ((totP (ps.take k) : Nat) : Int) ∧ n3 ≤ k ∧ o = .slice A3 n3 c3 ∧ Hid (OwnS encW 2 wr w1.heap.size 81 A3 n3 c3 (placed (ps.take k) 0)) ∧ Hid (Below w1.heap.size w1 wr)) (fun _ _ _ i _ => m - (intOf i).toNat)
  case atStart => exact ⟨0, 0, 0, none, Nat.zero_le _, rfl, rfl, Nat.le_refl _, rfl, Lib.hid (OwnS.nil _ _ _ _ _), Lib.hid (Below.refl _ _)⟩
  case round =>
    obtain ⟨k, n3, c3, A3, hk, rfl, rfl, hn3, rfl, HO, HB⟩ := hrel
    have htl := tot_le ps k
    by_cases hlt : k < m
    · have d0 : decide ((k : Int) < (m : Int)) = true := by simp; omega
      have d0' : decide (k < m) = true := by simp; omega
      have y1 : wr.cell? ⟨w.heap.size, k, none⟩ = some (.string (strB (gP ps k))) := (HB.out.cell (p := ⟨w.heap.size, k, none⟩) hl1).trans (HCL.out k hlt)
      have hkl : k < ps.length := by have := Hm.out; omega
      have htn := tot_next hkl
      have hpn := placed_next hkl
      have htl1 := tot_le ps (k + 1)
      obtain ⟨pc, hpc⟩ : ∃ pc, pc = gP ps k := ⟨_, rfl⟩
      rw [← hpc] at y1 htn hpn
      clear hpc
      have hsz : (strB pc).size = pc.length := rfl
      obtain ⟨T, hT⟩ : ∃ T, T = totP (ps.take k) := ⟨_, rfl⟩
      rw [← hT] at htl htn hpn
      rw [← hT]
      obtain ⟨T1, hT1⟩ : ∃ T1, T1 = totP (ps.take (k + 1)) := ⟨_, rfl⟩
      rw [← hT1] at htn htl1
      have HT1 := Lib.hid hT1
      clear hT hT1
      have HX := Lib.hid (And.intro htn hpn)
      by_cases hp : pc = []
      · have q0 : (strB pc).toList.isEmpty = true := by rw [hp, strB_toList]; rfl
        rw [if_pos hp] at hpn
        have HP := Lib.hid hpn
        clear hp hpn HX
        go_wp2_with fail
        go_roundw
        case rel =>
          refine ⟨k + 1, n3, c3, A3, by omega, by go_num, ?_, by omega, rfl, Lib.hid (by rw [HP.out]; exact HO.out), HB⟩
          rw [← HT1.out]
          go_num
        case measure => (simp [intOf]) <;> omega
      · have q0 : (strB pc).toList.isEmpty = false := by rw [strB_toList]; cases pc with | nil => exact absurd rfl hp | cons a l => rfl
        rw [if_neg hp] at hpn
        have HP := Lib.hid hpn
        have HBX := Lib.hid HB.out.size
        have hml2 := Lib.hid (show n3 + 1 ≤ maxLen ∧ (n3 + 1) * 24 ≤ 140737488355328 by unfold maxLen; omega)
        clear hp hpn HX
        go_wp2_with (at_builtin; refine wpList_pushS (enc := encW) rfl (.tmp 16) (.tmp 20) rfl uW infoW encW_one rfl (fun _ => rfl) (by decide) rfl HO.out HBX.out (pc, T) _ rfl rfl hml2.out.1 hml2.out.2 ?_; intro A6 c6 w6 ho6 hb6 hg6)
        have HN2 := Lib.hid (And.intro ho6 (HB.out.trans hb6))
        clear ho6 hb6 hg6
        go_wp2_with fail
        go_roundw
        case rel =>
          refine ⟨k + 1, n3 + 1, c6, A6, by omega, by go_num, ?_, by omega, rfl, Lib.hid (by rw [HP.out]; exact HN2.out.1), Lib.hid HN2.out.2⟩
          rw [← HT1.out]
          go_num
        case measure => (simp [intOf]) <;> omega
    · obtain rfl : k = m := by omega
      have d0 : decide ((k : Int) < (k : Int)) = false := by simp
      have ho := HO.out
      rw [Hm.out, List.take_length] at ho
      have hnl := ho.length (fun _ => rfl) (by decide)
      have HZ := Lib.hid (And.intro ho hnl)
      clear ho hnl
      go_wp2_with fail
      go_ret
      exact ⟨A3, c3, by rw [HZ.out.2]; rfl, by rw [HZ.out.2]; exact HZ.out.1.mono HB1.out.size, HB1.out.trans (HB.out.mono HB1.out.size)⟩
end Go.Proofs.YtckkmafppfcecaaGreatDoor
