/- Yf Yg Yx. -/
import Derived.Test.YtohadkmaemmfgaaGreatDoorRA05
import Derived.Test.YtohadkmaemmfgaaGreatDoorRA06
import Derived.Lib.LaidTab
import Derived.WalkSmall
import Derived.Lib.AppendIntMem
import Derived.Lib.ItoaNum
import Derived.Shelf.Strings.Split
import Derived.Shelf.Strconv.AtoiAll
set_option maxRecDepth 100000
set_option maxHeartbeats 4000000
namespace Go.Proofs.YtohadkmaemmfgaaGreatDoor
open Go.RowKit Go.Proofs
set_option linter.unusedVariables false
set_option linter.unusedSimpArgs false
def TabI (w : World) : Prop := Lib.TabIs Tryz.prog w "internal/strconv.uint64pow10" .u64 Lib.pow10Tab
theorem TabI.below {w w' : World} (h : TabI w) (hb : Below w.heap.size w w') : TabI w' := by
  have hg : ∃ g, Tryz.prog.globalNamed "internal/strconv.uint64pow10" = some g := by
    unfold TabI Lib.TabIs World.var? at h
    cases hq : Tryz.prog.globalNamed "internal/strconv.uint64pow10" with
    | none => rw [hq] at h; cases h
    | some g => exact ⟨g, rfl⟩
  obtain ⟨g, hg⟩ := hg
  refine var?_below hb hg ?_ h
  unfold TabI Lib.TabIs World.var? at h
  rw [hg] at h
  rcases Nat.lt_or_ge g w.heap.size with hlt | hge
  · exact hlt
  · rw [Option.bind_some, Array.getElem?_eq_none hge] at h; cases h
def VarE (g : Nat) (w : World) : Prop := ∃ ev, w.cell? ⟨g, 0, none⟩ = some ev ∧ (ev = .nilIface ∨ ∃ te pe, ev = .iface te pe)
theorem VarE.below {g : Nat} {w w' : World} (h : VarE g w) (hb : Below w.heap.size w w') : VarE g w' := by
  obtain ⟨ev, h1, h2⟩ := h
  exact ⟨ev, (hb.cell (p := ⟨g, 0, none⟩) (World.block_lt_of_cell? w _ h1)).trans h1, h2⟩
def VarN (g : Nat) (w : World) : Prop := ∃ m : Int, w.cell? ⟨g, 0, none⟩ = some (.int .i64 m)
theorem VarN.below {g : Nat} {w w' : World} (h : VarN g w) (hb : Below w.heap.size w w') : VarN g w' := by
  obtain ⟨m, h1⟩ := h
  exact ⟨m, (hb.cell (p := ⟨g, 0, none⟩) (World.block_lt_of_cell? w _ h1)).trans h1⟩
structure TabY (w : World) : Prop where
  ti : TabI w
  es : VarE 0 w
  er : VarE 1 w
  ml : VarN 2 w
theorem TabY.below {w w' : World} (h : TabY w) (hb : Below w.heap.size w w') : TabY w' := ⟨h.ti.below hb, h.es.below hb, h.er.below hb, h.ml.below hb⟩
theorem TabY.trans {B : Nat} {w w' : World} (h : TabY w) (hb : Below w.heap.size w w') : TabY w' := h.below hb
theorem itoa_any (n : Nat) (w : World) (hn : n ≤ 9223372036854775807) (hT : TabI w) : Calls Tryz.prog 66 #[.int .i64 (n : Int)] w fun e w' => e = .returned (.string (strB (decS n))) ∧ Below w.heap.size w w' := by
  refine (Tryz.strconv_Itoa (n : Int) (by omega) (by omega) w hT).mono ?_
  rintro e w' ⟨rfl, k, os, rfl⟩
  refine ⟨?_, ?_⟩
  · unfold Lib.itoa
    rw [if_neg (by omega), Int.toNat_natCast]
    rfl
  · exact Lib.below_grow _ w (Nat.le_refl _) k os
def NumPost (s : List UInt8) (w : World) (e : Ending) (w' : World) : Prop := ∃ z : Int, e = .returned (.tuple #[.int .i64 z, .bool (numP s).isSome]) ∧ (∀ k, numP s = some k → z = (k : Int)) ∧ Below w.heap.size w w'
theorem NumPost.none {s : List UInt8} {w w' : World} {z : Int} (h : numP s = .none) (hb : Below w.heap.size w w') : NumPost s w (.returned (.tuple #[.int .i64 z, .bool false])) w' :=
  ⟨z, by rw [h]; rfl, fun n hn => by rw [h] at hn; (cases hn), hb⟩
theorem NumPost.some {s : List UInt8} {w w' : World} {k : Nat} (h : numP s = .some k) (hb : Below w.heap.size w w') : NumPost s w (.returned (.tuple #[.int .i64 (k : Int), .bool true])) w' :=
  ⟨k, by rw [h]; rfl, fun n hn => by rw [h] at hn; (injection hn with hn; rw [hn]), hb⟩
theorem number_any (s : List UInt8) (w : World) (hs : s.length ≤ 1000000) (hT : TabY w) : Calls Tryz.prog 25 #[.string (strB s)] w (NumPost s w) := by
  have HT := Lib.hid hT; clear hT
  cases hA : Lib.atoiAll s with
  | ok v =>
    have hC := Tryz.strconv_Atoi_ok (strB s) (by show s.length ≤ _; omega) v hA w
    have HC := Lib.hid hC
    have hB := Lib.atoiAll_bounds hA
    have HN := Lib.hid (num_of_atoi hA)
    clear hA hC
    go_enter Tryz.func25, Tryz.ntmps25
    go_wp2_with fail
    refine HC.out.mono ?_
    rintro e w1 ⟨rfl, hw1⟩
    have hb1 : Below w.heap.size w w1 := by
      rcases hw1 with rfl | ⟨t, rfl⟩
      · exact Below.refl _ _
      · exact Lib.bytesWorld_below _ _ _
    clear hw1
    by_cases h0 : 0 ≤ v
    · have d0 : decide (0 ≤ v) = true := by simpa using h0
      by_cases h1 : v ≤ 9007199254740991
      · have d1 : decide (v ≤ 9007199254740991) = true := by simpa using h1
        obtain ⟨n, rfl⟩ : ∃ n : Nat, v = (n : Int) := ⟨v.toNat, by omega⟩
        have HI := Lib.hid (itoa_any n w1 (by omega) (HT.out.ti.below hb1))
        have HB := Lib.hid hb1
        by_cases h2 : decS n = s
        · have q2 : ((strB (decS n)).toList == (strB s).toList) = true := by rw [strB_beq, decide_eq_true h2]
          have HR := HN.out
          rw [if_pos ⟨h0, h1, by rw [Int.toNat_natCast]; exact h2⟩, Int.toNat_natCast] at HR
          have HR2 := Lib.hid HR
          clear h2 HR hb1 h0 h1
          go_wp2_with fail
          refine HI.out.mono ?_
          rintro e w2 ⟨rfl, hb2⟩
          have HB2 := Lib.hid (HB.out.trans (hb2.mono HB.out.size))
          clear hb2
          go_wp2_with fail
          go_ret2
          exact NumPost.some HR2.out HB2.out
        · have q2 : ((strB (decS n)).toList == (strB s).toList) = false := by rw [strB_beq, decide_eq_false h2]
          have HR := HN.out
          rw [if_neg (by rintro ⟨-, -, h3⟩; rw [Int.toNat_natCast] at h3; exact h2 h3)] at HR
          have HR2 := Lib.hid HR
          clear h2 HR hb1 h0 h1
          go_wp2_with fail
          refine HI.out.mono ?_
          rintro e w2 ⟨rfl, hb2⟩
          have HB2 := Lib.hid (HB.out.trans (hb2.mono HB.out.size))
          clear hb2
          go_wp2_with fail
          go_ret2
          exact NumPost.none HR2.out HB2.out
      · have d1 : decide (v ≤ 9007199254740991) = false := by simpa using h1
        have HR := HN.out
        rw [if_neg (by omega)] at HR
        have HR2 := Lib.hid (And.intro HR hb1)
        clear HR hb1 h0 h1
        go_wp2_with fail
        go_ret2
        exact NumPost.none HR2.out.1 HR2.out.2
    · have d0 : decide (0 ≤ v) = false := by simpa using h0
      have HR := HN.out
      rw [if_neg (by omega)] at HR
      have HR2 := Lib.hid (And.intro HR hb1)
      clear HR hb1 h0
      go_wp2_with fail
      go_ret2
      exact NumPost.none HR2.out.1 HR2.out.2
  | range =>
    obtain ⟨ev, h1, h2⟩ := HT.out.er
    have hC := Any.strconv_Atoi_range Tryz.laysC172 (strB s) (by show s.length ≤ _; omega) hA ev w h1 h2
    have HC := Lib.hid hC
    have HN := Lib.hid (num_none (s := s) (fun v => by rw [hA]; exact fun h => by cases h))
    clear hA hC h1 h2
    go_enter Tryz.func25, Tryz.ntmps25
    go_wp2_with fail
    refine HC.out.mono ?_
    rintro e w1 ⟨N, rfl, -, -, hb1⟩
    have HB := Lib.hid hb1
    clear hb1
    go_wp2_with fail
    go_ret2
    exact NumPost.none HN.out HB.out
  | _ =>
    obtain ⟨ev, h1, h2⟩ := HT.out.es
    have hC := Any.strconv_Atoi_syntax Tryz.laysC172 (strB s) (by show s.length ≤ _; omega) hA ev w h1 h2
    have HC := Lib.hid hC
    have HN := Lib.hid (num_none (s := s) (fun v => by rw [hA]; exact fun h => by cases h))
    clear hA hC h1 h2
    go_enter Tryz.func25, Tryz.ntmps25
    go_wp2_with fail
    refine HC.out.mono ?_
    rintro e w1 ⟨N, rfl, -, -, hb1⟩
    have HB := Lib.hid hb1
    clear hb1
    go_wp2_with fail
    go_ret2
    exact NumPost.none HN.out HB.out
def encW (p : List UInt8 × Nat) : List Value := [.string (strB p.1), .int .i64 (p.2 : Int)]
theorem encW_one (x : List UInt8 × Nat) : ∀ u ∈ encW x, u.oneCell' = true := by intro u hu; simp [encW] at hu; rcases hu with rfl | rfl <;> rfl
theorem infoW : (Tryz.prog.info? 61).map (fun i => (i.zero, i.size, i.bytes)) = some (some (.agg #[.string ByteArray.empty, .int .i64 0]), 2, 24) := by kernel_rfl
theorem uW : Tryz.prog.underlying 58 = some (.slice 61) := Tryz.underlying58
theorem split_cells (w : World) (ps : List (List UInt8)) (t : TypeId) {k : Nat} (hk : k < ps.length) : (w.alloc (.cells ((ps.map strB).map Value.string).toArray t)).cell? ⟨w.heap.size, k, none⟩ = some (.string (strB (gP ps k))) := by
  refine rowV.cell (rowV.new w t _) ?_
  unfold gP
  simp [hk]
theorem split_any (s : List UInt8) (w : World) (hs : s.length ≤ 1000000) (hT : TabY w) : Calls Tryz.prog 22 #[.string (strB s)] w fun e w' =>
    ∃ A c, e = .returned (.slice A (wordsP s).length c) ∧ OwnS encW 2 w' w.heap.size 61 A (wordsP s).length c (wordsP s) ∧ Below w.heap.size w w' := by
  obtain ⟨m0, hm0⟩ := hT.ml
  have hC := Tryz.strings_Split (strB s) ⟨#[32]⟩ m0 w (by show s.length < _; omega) hm0 (Nat.le_refl _)
  rw [splitB_spl, ← spl_count] at hC
  have hml := spl_length s
  obtain ⟨ps, hps⟩ : ∃ ps, ps = spl s := ⟨_, rfl⟩
  have htot := tot_spl s
  have hW : Hid (wordsP s = placed ps 0) := by rw [hps]; rfl
  rw [← hps] at hC hml htot
  have HC := Lib.hid hC
  clear hC hm0 hps hT
  rw [hW.out]
  go_enter Tryz.func22, Tryz.ntmps22
  go_wp2_with fail
  refine HC.out.mono ?_
  rintro e w1 ⟨rfl, hw1⟩
  have hcell : ∀ k, k < ps.length → w1.cell? ⟨w.heap.size, k, none⟩ = some (.string (strB (gP ps k))) := fun k hk => by rw [hw1]; exact split_cells w ps _ hk
  have hb1 : Below w.heap.size w w1 := by rw [hw1]; exact balloc (Below.refl _ _) _
  have hl1 : w.heap.size < w1.heap.size := by rw [hw1, World.size_alloc]; omega
  have HB1 := Lib.hid hb1
  have HCL := Lib.hid hcell
  obtain ⟨m, hm⟩ : ∃ m, m = ps.length := ⟨_, rfl⟩
  rw [← hm] at hml HCL
  have Hm := Lib.hid hm
  clear HC hw1 hb1 hcell hm
  rw [← Hm.out]
  go_wp2_with fail
  go_loopw [3, 4, 6, 10] (fun o q _ i wr => ∃ (k n3 c3 : Nat) (A3 : Option Addr), k ≤ m ∧ i = .int .i64 (k : Int) ∧ q = .int .i64 ((totP (ps.take k) : Nat) : Int) ∧ n3 ≤ k ∧ o = .slice A3 n3 c3 ∧ Hid (OwnS encW 2 wr w1.heap.size 61 A3 n3 c3 (placed (ps.take k) 0)) ∧ Hid (Below w1.heap.size w1 wr)) (fun _ _ _ i _ => m - (intOf i).toNat)
  case atStart => exact ⟨0, 0, 0, none, Nat.zero_le _, rfl, rfl, Nat.le_refl _, rfl, Lib.hid (OwnS.nil _ _ _ _ _), Lib.hid (Below.refl _ _)⟩
  case round =>
    obtain ⟨k, n3, c3, A3, hk, rfl, rfl, hn3, rfl, HO, HB⟩ := hrel
    have htl := tot_le ps k
    by_cases hlt : k < m
    · have d0 : decide ((k : Int) < (m : Int)) = true := by simp; omega
      have d0' : decide (k < m) = true := by simp; omega
      have y1 : wr.cell? ⟨w.heap.size, k, none⟩ = some (.string (strB (gP ps k))) := (HB.out.cell (p := ⟨w.heap.size, k, none⟩) hl1).trans (HCL.out k hlt)
      have hkl : k < ps.length := by have := Hm.out; omega
      have htn := tot_next hkl
      have hpn := placed_next hkl
      have htl1 := tot_le ps (k + 1)
      obtain ⟨pc, hpc⟩ : ∃ pc, pc = gP ps k := ⟨_, rfl⟩
      rw [← hpc] at y1 htn hpn
      clear hpc
      have hsz : (strB pc).size = pc.length := rfl
      obtain ⟨T, hT⟩ : ∃ T, T = totP (ps.take k) := ⟨_, rfl⟩
      rw [← hT] at htl htn hpn
      rw [← hT]
      obtain ⟨T1, hT1⟩ : ∃ T1, T1 = totP (ps.take (k + 1)) := ⟨_, rfl⟩
      rw [← hT1] at htn htl1
      have HT1 := Lib.hid hT1
      clear hT hT1
      have HX := Lib.hid (And.intro htn hpn)
      by_cases hp : pc = []
      · have q0 : (strB pc).toList.isEmpty = true := by rw [hp, strB_toList]; rfl
        rw [if_pos hp] at hpn
        have HP := Lib.hid hpn
        clear hp hpn HX
        go_wp2_with fail
        go_roundw
        case rel =>
          refine ⟨k + 1, n3, c3, A3, by omega, by go_num, ?_, by omega, rfl, Lib.hid (by rw [HP.out]; exact HO.out), HB⟩
          rw [← HT1.out]
          go_num
        case measure => (simp [intOf]) <;> omega
      · have q0 : (strB pc).toList.isEmpty = false := by rw [strB_toList]; cases pc with | nil => exact absurd rfl hp | cons a l => rfl
        rw [if_neg hp] at hpn
        have HP := Lib.hid hpn
        have HBX := Lib.hid HB.out.size
        have hml2 := Lib.hid (show n3 + 1 ≤ maxLen ∧ (n3 + 1) * 24 ≤ 140737488355328 by unfold maxLen; omega)
        clear hp hpn HX
        go_wp2_with (at_builtin; refine wpList_pushS (enc := encW) rfl (.tmp 16) (.tmp 20) rfl uW infoW encW_one rfl (fun _ => rfl) (by decide) rfl HO.out HBX.out (pc, T) _ rfl rfl hml2.out.1 hml2.out.2 ?_; intro A6 c6 w6 ho6 hb6 hg6)
        have HN2 := Lib.hid (And.intro ho6 (HB.out.trans hb6))
        clear ho6 hb6 hg6
        go_wp2_with fail
        go_roundw
        case rel =>
          refine ⟨k + 1, n3 + 1, c6, A6, by omega, by go_num, ?_, by omega, rfl, Lib.hid (by rw [HP.out]; exact HN2.out.1), Lib.hid HN2.out.2⟩
          rw [← HT1.out]
          go_num
        case measure => (simp [intOf]) <;> omega
    · obtain rfl : k = m := by omega
      have d0 : decide ((k : Int) < (k : Int)) = false := by simp
      have ho := HO.out
      rw [Hm.out, List.take_length] at ho
      have hnl := ho.length (fun _ => rfl) (by decide)
      have HZ := Lib.hid (And.intro ho hnl)
      clear ho hnl
      go_wp2_with fail
      go_ret
      exact ⟨A3, c3, by rw [HZ.out.2]; rfl, by rw [HZ.out.2]; exact HZ.out.1.mono HB1.out.size, HB1.out.trans (HB.out.mono HB1.out.size)⟩
theorem named_any (nm x : List UInt8) (a b : Int) (g g' : Nat) (lb lb' : Array Value) (gw : Nat) (w : World) (hx : w.cell? ⟨gw, 0, none⟩ = some (.string (strB x))) :
    Calls Tryz.prog 24 #[.agg #[.string (strB nm), .int .i64 a, .int .i64 b, .func (.func g) #[] lb, .func (.func g') #[] lb'], .pointer (some ⟨gw, 0, none⟩)] w fun e w' => e = .returned (.bool (decide (nm = x))) ∧ Below w.heap.size w w' := by
  have hlt : gw < w.heap.size := World.block_lt_of_cell? w _ hx
  have hb := Lib.hid (balloc (Below.refl w.heap.size w) (.cells #[.string (strB nm), .int .i64 a, .int .i64 b, .func (.func g) #[] lb, .func (.func g') #[] lb'] 45))
  have hq : Hid (((strB nm).toList == (strB x).toList) = decide (nm = x)) := strB_beq _ _
  go_enter Tryz.func24, Tryz.ntmps24
  go_wp2_with fail
  rw [hq.out]
  go_ret
  exact ⟨rfl, hb.out⟩
theorem indexShape_any (x : List UInt8) (f : Nat → Value) (hf : IsCl f) (gk gw : Nat) (w : World) (hk : rowV w gk 46 (shV f)) (hx : w.cell? ⟨gw, 0, none⟩ = some (.string (strB x))) :
    Calls Tryz.prog 23 #[.slice (some ⟨gk, 0, none⟩) 10 10, .func (.func 24) #[] #[.pointer (some ⟨gw, 0, none⟩)]] w fun e w' => e = .returned (.int .i64 (kindP x)) ∧ Below w.heap.size w w' := by
  have hlt : gw < w.heap.size := World.block_lt_of_cell? w _ hx
  have HK := Lib.hid hk
  have HX := Lib.hid hx
  have HF := Lib.hid hf
  clear hk hx hf
  go_enter Tryz.func23, Tryz.ntmps23
  go_wp2_with fail
  go_loopw [5, 8] (fun _ i wr => ∃ k : Nat, k ≤ 10 ∧ i = .int .i64 (k : Int) ∧ Hid (∀ j, j < k → nameP ((j : Nat) : Int) ≠ x) ∧ Hid (Below w.heap.size w wr)) (fun _ i _ => 10 - (intOf i).toNat)
  case atStart => exact ⟨0, Nat.zero_le _, rfl, Lib.hid (fun j hj => absurd hj (Nat.not_lt_zero _)), Lib.hid (Below.refl _ _)⟩
  case round =>
    obtain ⟨k, hk, rfl, HA, HB⟩ := hrel
    by_cases hlt2 : k < 10
    · have d0 : decide ((k : Int) < 10) = true := by simp; omega
      have d0' : decide (k < 10) = true := by simp; omega
      obtain ⟨ug, vg, ul, vl, q0, q1, q2, q3, q4⟩ := shV_at HF.out hlt2
      have rr := HK.out.below HB.out HK.out.lt
      have k0 := rr.cell q0
      have k1 := rr.cell q1
      have k2 := rr.cell q2
      have k3 := rr.cell q3
      have k4 := rr.cell q4
      clear q0 q1 q2 q3 q4 rr
      have HC := Lib.hid (named_any (nameP k) x (frK k) (toK k) ug vg ul vl gw wr ((HB.out.cell (p := ⟨gw, 0, none⟩) hlt).trans HX.out))
      obtain ⟨nm, hnm⟩ : ∃ nm, nm = nameP (k : Int) := ⟨_, rfl⟩
      rw [← hnm] at k0 HC
      have HN := Lib.hid hnm
      clear hnm
      by_cases he : nm = x
      · rw [decide_eq_true he] at HC
        have hkx : kindP x = (k : Int) := kind_hit hlt2 (by rw [← HN.out]; exact he) HA.out
        have HKX := Lib.hid hkx
        clear he hkx
        go_wp2_with fail
        refine HC.out.mono ?_
        rintro e w2 ⟨rfl, hb2⟩
        go_wp2_with fail
        rw [HKX.out]
        go_ret
        exact ⟨rfl, HB.out.trans (hb2.mono HB.out.size)⟩
      · rw [decide_eq_false he] at HC
        have HE := Lib.hid he
        clear he
        go_wp2_with fail
        refine HC.out.mono ?_
        rintro e w2 ⟨rfl, hb2⟩
        have HB2 := Lib.hid (HB.out.trans (hb2.mono HB.out.size))
        clear hb2
        go_wp2_with fail
        go_roundw
        case rel =>
          refine ⟨k + 1, by omega, by go_num, Lib.hid (fun j hj => ?_), HB2⟩
          by_cases e : j = k
          · subst e; rw [← HN.out]; exact HE.out
          · exact HA.out j (by omega)
        case measure => (simp [intOf]) <;> omega
    · obtain rfl : k = 10 := by omega
      have HKX := Lib.hid (kind_miss HA.out)
      go_wp2_with fail
      rw [HKX.out]
      go_ret
      exact ⟨rfl, HB.out⟩
section
variable {α : Type} {enc : α → List Value} {sz : Nat} {w w' : World} {B : Nat} {e : TypeId} {A : Option Addr} {n c : Nat} {xs : List α}
theorem OwnS.blk (h : OwnS enc sz w B e A n c xs) {b : Nat} (hb : (Value.slice A n c).ownBlock = some b) : b < w.heap.size ∧ B ≤ b ∧ ∃ cur, w.heap[b]? = some (.cells cur e (0, 0)) := by
  rcases h.2 with ⟨h1, _⟩ | ⟨g, cap, cur, h1, h2, h3, _⟩
  · rw [h1] at hb; cases hb
  · rw [h1] at hb
    injection hb with hb
    have hg : g = b := hb
    subst hg
    exact ⟨(Array.getElem?_eq_some_iff.1 h3).1, h2, cur, h3⟩
theorem OwnS.grown (h : OwnS enc sz w B e A n c xs) {row : Option Nat} (hg : w.grownBy w' row) (hne : ∀ b, (Value.slice A n c).ownBlock = some b → some b ≠ row) : OwnS enc sz w' B e A n c xs := by
  refine ⟨h.1, ?_⟩
  rcases h.2 with h1 | ⟨g, cap, cur, h1, h2, h3, h4⟩
  · exact .inl h1
  · exact .inr ⟨g, cap, cur, h1, h2, (hg.block g (Array.getElem?_eq_some_iff.1 h3).1 (hne g (by rw [h1]; rfl))).trans h3, h4⟩
theorem OwnS.ne_row (h : OwnS enc sz w B e A n c xs) {g : Nat} {t : TypeId} {cs : Array Value} (hr : rowV w g t cs) (hne : e ≠ t) : ∀ b, (Value.slice A n c).ownBlock = some b → some b ≠ some g := fun b hb he => by
  injection he with he
  subst he
  obtain ⟨_, _, cur, h3⟩ := h.blk hb
  unfold rowV at hr
  rw [hr] at h3
  injection h3 with h3
  injection h3 with _ h3
  exact hne h3.symm
theorem OwnS.ne_own {α' : Type} {enc' : α' → List Value} {sz' : Nat} {e' : TypeId} {A' : Option Addr} {n' c' : Nat} {ys : List α'} (h : OwnS enc sz w B e A n c xs) (h' : OwnS enc' sz' w B e' A' n' c' ys) (hne : e ≠ e') :
    ∀ b, (Value.slice A n c).ownBlock = some b → some b ≠ (Value.slice A' n' c').ownBlock := fun b hb he => by
  obtain ⟨_, _, cur, h3⟩ := h.blk hb
  obtain ⟨_, _, cur', h3'⟩ := h'.blk he.symm
  rw [h3] at h3'
  injection h3' with h3'
  injection h3' with _ h3'
  exact hne h3'
end
theorem rowV.grown {w w' : World} {g : Nat} {t : TypeId} {cs : Array Value} {row : Option Nat} (h : rowV w g t cs) (hg : w.grownBy w' row) (hne : some g ≠ row) : rowV w' g t cs := (hg.block g h.lt hne).trans h
theorem cell_rowV {w : World} {g : Nat} {t : TypeId} {cs : Array Value} (h : rowV w g t cs) {j : Nat} {v : Value} (hj : cs[j]? = some v) : w.cell? ⟨g, j, none⟩ = some v := h.cell hj
theorem bdrew1 {B : Nat} {w w1 : World} (h : Below B w w1) : Below B w w1.drew := bdrew h 1
theorem rowV_newA {w : World} {g : Nat} {t : TypeId} {cs : Array Value} (hg : g = w.heap.size) : rowV (w.alloc (.cells cs t)) g t cs := by rw [hg]; exact rowV.new w t cs
theorem rowV_drew1 {w : World} {g : Nat} {t : TypeId} {cs : Array Value} (h : rowV w g t cs) : rowV w.drew g t cs := h
theorem rowV_alloc1 {w : World} {g : Nat} {t : TypeId} {cs : Array Value} {o : Obj} (h : rowV w g t cs) : rowV (w.alloc o) g t cs := h.below (balloc (Below.refl _ _) o) h.lt
theorem step_pushG {P : Program} {α : Type} {enc : α → List Value} {sz : Nat} {w : World} {B : Nat} {e t : TypeId} {A : Option Addr} {n c : Nat} {xs : List α} {z : Value} {bytes : Nat}
  {ops : Array Oper} {o : Oper} {a : Act} {K : Act → World → Prop} {Q : Exit → Act → World → Prop} {E : Prop} (hgd : o.guard = none) (s x : Operand) (ho : o.op = .call { callee := .builtin .append, args := #[s, x], argTypes := #[t, t] })
    (ht : P.underlying t = some (.slice e)) (hi : (P.info? e).map (fun i => (i.zero, i.size, i.bytes)) = some (some z, sz, bytes))
    (h1 : ∀ x, ∀ u ∈ enc x, u.oneCell' = true) (hz : z.cells.size = sz) (hl : ∀ x, (enc x).length = sz) (hsz : 0 < sz)
    (hs : a.eval s = .slice A n c) (hown : OwnS enc sz w B e A n c xs) (hB : B ≤ w.heap.size) (y : α) (g : Nat)
    (hx : a.eval x = .slice (some ⟨g, 0, none⟩) 1 1) (hcell : ∀ j u, (enc y)[j]? = some u → w.cell? ⟨g, j, none⟩ = some u) (hml : n + 1 ≤ maxLen) (hby : (n + 1) * bytes ≤ 140737488355328)
    (h : ∀ A2 c2 w', OwnS enc sz w' B e A2 (n + 1) c2 (xs ++ [y]) → w.grownBy w' (Value.slice A n c).ownBlock → (∀ b, (Value.slice A2 (n + 1) c2).ownBlock = some b → (Value.slice A n c).ownBlock = some b ∨ w.heap.size ≤ b) → K (a.put o.dst (.slice A2 (n + 1) c2)) w') :
    if Region.wanted o (yielded ops a.tmps) = true then Oper.wp P o a w K Q else E := by
  rw [if_pos (by simp [Region.wanted, hgd])]
  obtain ⟨i, hi0, hz0, hs1, hb⟩ := info_parts hi
  obtain ⟨v', w', hrun, h2, h3, _, h5⟩ := run_append_own_at (P := P) w B t o.type e i z sz bytes ht hi0 hz0 hs1 hb hz hsz _ n _ hown ⟨g, 0, none⟩ 1 1 (enc y) (by rw [hl, Nat.one_mul]) (fun j u hu => by
    rw [addr_add, Nat.zero_add]
    exact hcell j u hu) (h1 y) hml hby hB
  have hform : ∃ A2 c2, v' = .slice A2 (n + 1) c2 := by
    rcases h2.2 with ⟨rfl, h0⟩ | ⟨g, cap, cur, rfl, _⟩
    · exact ⟨none, 0, by rw [h0]⟩
    · exact ⟨_, _, rfl⟩
  obtain ⟨A2, c2, rfl⟩ := hform
  unfold Oper.wp execOp
  simp only [ho, resolve, invoke, builtin, Sem.run_bind, Sem.run_pure, Result.andThen_ok, List.map_toArray, List.map_cons, List.map_nil, hs, hx, hrun]
  refine h A2 c2 w' ?_ h3 (fun b hb => ?_)
  · unfold OwnS
    rw [List.flatMap_append, List.flatMap_cons, List.flatMap_nil, List.append_nil]
    exact h2
  · rcases h5 with h5 | h5
    · exact .inl (h5 ▸ hb)
    · rw [h5] at hb
      injection hb with hb
      exact .inr (by omega)
theorem one_cell {w : World} {g : Nat} {t : TypeId} {u0 : Value} (h : rowV w g t #[u0]) : ∀ j u, [u0][j]? = some u → w.cell? ⟨g, j, none⟩ = some u := fun j u hu => by
  rcases j with _ | j
  · exact cell_rowV h hu
  · simp at hu
theorem two_cell {w : World} {g : Nat} {t : TypeId} {u0 u1 : Value} (h : rowV w g t #[u0, u1]) : ∀ j u, [u0, u1][j]? = some u → w.cell? ⟨g, j, none⟩ = some u := fun j u hu => by
  rcases j with _ | _ | j
  · exact h.cell hu
  · exact h.cell hu
  · simp at hu
def encSt (s : Stg) : List Value := [.int .i64 s.1, .int .i64 s.2]
theorem encSt_one (x : Stg) : ∀ u ∈ encSt x, u.oneCell' = true := by intro u hu; simp [encSt] at hu; rcases hu with rfl | rfl <;> rfl
theorem infoSt : (Tryz.prog.info? 50).map (fun i => (i.zero, i.size, i.bytes)) = some (some (.agg #[.int .i64 0, .int .i64 0]), 2, 16) := by kernel_rfl
theorem uSt : Tryz.prog.underlying 22 = some (.slice 50) := Tryz.underlying22
def encZ (z : Int) : List Value := [.int .i64 z]
theorem encZ_one (x : Int) : ∀ u ∈ encZ x, u.oneCell' = true := by intro u hu; simp [encZ] at hu; subst hu; rfl
theorem infoZ : (Tryz.prog.info? 3).map (fun i => (i.zero, i.size, i.bytes)) = some (some (.int .i64 0), 1, 8) := by kernel_rfl
theorem uZs : Tryz.prog.underlying 52 = some (.slice 3) := Tryz.underlying52
theorem OwnS.toStgs {w : World} {B : Nat} {A : Option Addr} {n c : Nat} {l : List Stg} (h : OwnS encSt 2 w B 50 A n c l) (hwf : ∀ x ∈ l, (Lit.int .i64 x.1).wf = true ∧ (Lit.int .i64 x.2).wf = true) : Stgs w A n c l := by
  refine ⟨h.length (fun _ => rfl) (by decide), h.cap, hwf, fun hn => ?_⟩
  obtain ⟨g, hA, -, hlt, hc⟩ := h.get (fun _ => rfl) (by decide) (0, 0) hn
  refine ⟨g, 0, hA, hlt, fun i hi => ⟨?_, ?_⟩⟩
  · have := hc i 0 _ hi rfl
    simpa [sG] using this
  · have := hc i 1 _ hi rfl
    simpa [sG, Nat.add_assoc] using this
def gW (W : List (List UInt8 × Nat)) (j : Nat) : List UInt8 × Nat := W.getD j ([], 0)
theorem drop_gW {W : List (List UInt8 × Nat)} {j : Nat} (h : j < W.length) : W.drop j = gW W j :: W.drop (j + 1) := by
  rw [List.drop_eq_getElem_cons h]
  unfold gW
  rw [List.getD_eq_getElem?_getD, List.getElem?_eq_getElem h]; rfl
theorem gW_mem {W : List (List UInt8 × Nat)} {j : Nat} (h : j < W.length) : gW W j ∈ W := by
  unfold gW
  rw [List.getD_eq_getElem?_getD, List.getElem?_eq_getElem h]
  exact List.getElem_mem h
abbrev Acc := List (Stg × Nat)
def Red (N : Nat) (W : List (List UInt8 × Nat)) (j : Nat) (acc : Acc) : Prop := readP N W = (readP N (W.drop j)).map fun o => acc ++ o
theorem Red.start (N : Nat) (W : List (List UInt8 × Nat)) : Red N W 0 [] := by
  unfold Red
  rw [List.drop_zero]
  cases readP N W <;> rfl
theorem Red.err {N : Nat} {W : List (List UInt8 × Nat)} {j : Nat} {acc : Acc} (h : Red N W j acc) {i : Nat} {e : Int} (he : readP N (W.drop j) = .error (i, e)) : readP N W = .error (i, e) := by
  unfold Red at h; rw [h, he]; rfl
theorem Red.done {N : Nat} {W : List (List UInt8 × Nat)} {j : Nat} {acc : Acc} (h : Red N W j acc) (hj : W.length ≤ j) : readP N W = .ok acc := by
  unfold Red at h
  rw [h, List.drop_eq_nil_of_le hj]
  show Except.ok (acc ++ []) = _
  rw [List.append_nil]
theorem Red.bad {N : Nat} {W : List (List UInt8 × Nat)} {j : Nat} {acc : Acc} (h : Red N W j acc) (hj : j < W.length) (hk : kindP (gW W j).1 < 0) : readP N W = .error ((gW W j).2, 4) := by
  refine h.err ?_
  rw [drop_gW hj, readP.eq_def]
  simp only
  rw [if_pos hk]
theorem Red.last {N : Nat} {W : List (List UInt8 × Nat)} {j : Nat} {acc : Acc} (h : Red N W j acc) (hj : j < W.length) (hk : kindP (gW W j).1 = 0) (hl : W.length ≤ j + 1) : readP N W = .error (N, 4) := by
  refine h.err ?_
  rw [drop_gW hj, List.drop_eq_nil_of_le hl, readP.eq_def]
  simp only
  rw [if_neg (by omega), if_pos hk]
theorem Red.nonum {N : Nat} {W : List (List UInt8 × Nat)} {j : Nat} {acc : Acc} (h : Red N W j acc) (hj : j + 1 < W.length) (hk : kindP (gW W j).1 = 0) (hn : numP (gW W (j + 1)).1 = none) : readP N W = .error ((gW W (j + 1)).2, 4) := by
  refine h.err ?_
  rw [drop_gW (by omega), drop_gW hj, readP.eq_def]
  simp only
  rw [if_neg (by omega), if_pos hk]
  simp only [hn]
theorem Red.table {N : Nat} {W : List (List UInt8 × Nat)} {j : Nat} {acc : Acc} (h : Red N W j acc) (hj : j + 1 < W.length) (hk : kindP (gW W j).1 = 0) {k : Nat} (hn : numP (gW W (j + 1)).1 = some k) : Red N W (j + 2) (acc ++ [((0, (k : Int)), (gW W j).2)]) := by
  unfold Red at h ⊢
  rw [h, drop_gW (by omega : j < W.length), drop_gW hj, readP.eq_def]
  simp only
  rw [if_neg (by omega), if_pos hk]
  simp only [hn]
  cases readP N (W.drop (j + 2)) <;> simp [Except.map]
theorem Red.other {N : Nat} {W : List (List UInt8 × Nat)} {j : Nat} {acc : Acc} (h : Red N W j acc) (hj : j < W.length) (h0 : ¬ kindP (gW W j).1 < 0) (hk : kindP (gW W j).1 ≠ 0) : Red N W (j + 1) (acc ++ [((kindP (gW W j).1, 0), (gW W j).2)]) := by
  unfold Red at h ⊢
  rw [h, drop_gW hj, readP.eq_def]
  simp only
  rw [if_neg h0, if_neg hk]
  cases readP N (W.drop (j + 1)) <;> simp [Except.map]
theorem parse_err {s : List UInt8} {i : Nat} {e : Int} (hl : ¬ 8192 < s.length) (h : readP s.length (wordsP s) = .error (i, e)) : parseP s = ([], (i : Int), e) := by
  unfold parseP; rw [if_neg hl, h]
theorem parse_ok {s : List UInt8} {o : Acc} (hl : ¬ 8192 < s.length) (h : readP s.length (wordsP s) = .ok o) : parseP s = (let e := typE (o.map (·.1)) (0, 0); if e.1 = 0 then ((o.map (·.1), 0, 0) : List Stg × Int × Int) else if e.2 < 0 then ([], 0, e.1) else ([], (((o.map (·.2)).getD e.2.toNat 0 : Nat) : Int), e.1)) := by
  unfold parseP; rw [if_neg hl, h]
def AccOk (acc : Acc) : Prop := ∀ x ∈ acc, (Lit.int .i64 x.1.1).wf = true ∧ (Lit.int .i64 x.1.2).wf = true
theorem AccOk.push {acc : Acc} (h : AccOk acc) {k a : Int} {i : Nat} (hk : 0 ≤ k ∧ k < 10) (ha : 0 ≤ a ∧ a ≤ 9007199254740991) : AccOk (acc ++ [((k, a), i)]) := by
  intro x hx
  rcases List.mem_append.1 hx with hx | hx
  · exact h x hx
  · rw [List.mem_singleton] at hx
    subst hx
    constructor <;> simp [Lit.wf, IntKind.min, IntKind.max, IntKind.bits, IntKind.signed] <;> omega
theorem fstE_ix {f : Nat → Int} : ∀ (m k : Nat), (fstE f m k).1 ≠ 0 → ∃ j : Nat, (fstE f m k).2 = (j : Int) ∧ j < k + m
  | 0, k, h => absurd rfl h
  | m + 1, k, h => by
    rw [fstE] at h ⊢
    by_cases hk : f k = 0
    · rw [if_pos hk] at h ⊢
      obtain ⟨j, h1, h2⟩ := fstE_ix m (k + 1) h
      exact ⟨j, h1, by omega⟩
    · rw [if_neg hk]
      exact ⟨k, rfl, by omega⟩
theorem typE_ix {l : List Stg} {t : Ty} (h : (typE l t).1 ≠ 0) : (typE l t).2 < 0 ∨ ∃ j : Nat, (typE l t).2 = (j : Int) ∧ j < l.length := by
  unfold typE at h ⊢
  split
  · exact .inl (by decide)
  · split
    · exact .inl (by decide)
    · rename_i h1 h2
      rw [if_neg h1, if_neg h2] at h
      obtain ⟨j, h3, h4⟩ := fstE_ix _ _ h
      exact .inr ⟨j, h3, by omega⟩
end Go.Proofs.YtohadkmaemmfgaaGreatDoor
