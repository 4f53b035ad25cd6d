/- Walk of the law ListingParts. -/
import Derived.Test.YtmijalhilalaoaaDoorTu
import Derived.Test.YtmijalhilalaoaaDoorTs
namespace Go.Proofs.YtmijalhilalaoaaDoor
open Go.RowKit Go.Proofs
set_option linter.unusedVariables false

/-- the library's variable that strings.Index asks for. -/
def MaxL (w : World) : Prop := ∃ m, w.cell? ⟨0, 0, none⟩ = some (.int .i64 m)
theorem MaxL.below {w w' : World} (h : MaxL w) (hb : Below w.heap.size w w') : MaxL w' := by
  obtain ⟨m, hm⟩ := h
  exact ⟨m, (hb.cell (p := ⟨0, 0, none⟩) (World.block_lt_of_cell? w _ hm)).trans hm⟩
theorem split_any (ls : List (List UInt8)) (w : World) (hM : MaxL w) (h : ∀ x ∈ ls, (10 : UInt8) ∉ x) (hs : (nlAll ls).length < 4294967281) :
    Calls Tryd.prog 18 #[.string (strB (nlAll ls)), .string ⟨#[10]⟩] w fun e w' => e = .returned (.slice (some ⟨w.heap.size, 0, none⟩) (ls.length + 1) (ls.length + 1)) ∧ Row encT w' w.heap.size 9 (ls ++ [[]]) ∧ Below w.heap.size w w' := by
  obtain ⟨m, hm⟩ := hM
  refine (Tryd.strings_Split (strB (nlAll ls)) ⟨#[10]⟩ m w hs hm (Nat.le_refl _)).mono ?_
  rintro e w' ⟨rfl, rfl⟩
  obtain ⟨h1, h2⟩ := splitB_lines h
  rw [h1, h2]
  refine ⟨rfl, ?_, balloc (Below.refl _ _) _⟩
  have := Row.new (enc := encT) w 9 (ls ++ [[]])
  unfold rowObj at this
  rw [List.map_map]
  exact this
theorem word_any (x r : List UInt8) (w : World) (hM : MaxL w) (h : (32 : UInt8) ∉ x) (hs : (x ++ 32 :: r).length < 4294967281) :
    Calls Tryd.prog 21 #[.string (strB (x ++ 32 :: r)), .string ⟨#[32]⟩, .int .i64 2] w fun e w' => e = .returned (.slice (some ⟨w.heap.size, 0, none⟩) 2 2) ∧ w'.cell? ⟨w.heap.size, 0, none⟩ = some (.string (strB x)) ∧ Below w.heap.size w w' := by
  obtain ⟨m, hm⟩ := hM
  refine (Tryd.strings_SplitN (strB (x ++ 32 :: r)) ⟨#[32]⟩ 2 m w hs hm (Nat.le_refl _) (by omega) (by omega)).mono ?_
  rintro e w' ⟨rfl, rfl⟩
  have h2 : min 2 ((strB (x ++ 32 :: r)).size + 1) = 2 := by rw [strB_size]; simp; omega
  rw [h2, splitB_word h]
  refine ⟨rfl, ?_, balloc (Below.refl _ _) _⟩
  simp [Lib.cellsOf]
theorem trim_any (x : List UInt8) (w : World) : Calls Tryd.prog 19 #[.string (strB x), .string ⟨#[32]⟩] w fun e w' => e = .returned (.string (strB (Lib.trimLeftB x 32))) ∧ w' = w :=
  (Tryd.strings_TrimLeft_one (strB x) 32 (by decide) w).mono fun e w' h => h
theorem suffix_any (x : List UInt8) (w : World) (h : endOk x) (hs : x.length ≤ 1000000) : Calls Tryd.prog 20 #[.string (strB x), .string ⟨#[32]⟩] w fun e w' => e = .returned (.bool false) ∧ w' = w := by
  refine (Tryd.strings_HasSuffix (strB x) ⟨#[32]⟩ w (by rw [strB_size]; omega)).mono ?_
  rintro e w' ⟨rfl, hw⟩
  exact ⟨ret_bool (h.suffix), hw⟩
theorem prefix_any (k : Nat) (w : World) : Calls Tryd.prog 22 #[.string (strB (locL k)), .string ⟨#[108, 111, 99, 97, 108, 32, 108]⟩] w fun e w' => e = .returned (.bool true) ∧ w' = w := by
  refine (Tryd.strings_HasPrefix (strB (locL k)) ⟨#[108, 111, 99, 97, 108, 32, 108]⟩ w).mono ?_
  rintro e w' ⟨rfl, hw⟩
  exact ⟨ret_bool (locL_prefix k), hw⟩

set_option maxRecDepth 100000 in
set_option maxHeartbeats 8000000 in
theorem listingParts_any (A A' : Option Addr) (n c n' c' : Nat) (L : Int) (p : Prg) (w : World) (hx : Progs w A n c L A' n' c' p) (hT : TabI w) (hM : MaxL w) :
    Calls Tryd.prog 7 #[.agg #[.slice A n c, .int .i64 L, .slice A' n' c']] w (RetB w true) := by
  have HnA := Lib.hid hx.arrs.1
  have HnC := Lib.hid hx.code.1
  have HL := Lib.hid hx.locs
  have g0 : Below w.heap.size w (w.alloc (.cells #[.slice A n c, .int .i64 L, .slice A' n' c'] 25)) := balloc (Below.refl _ _) _
  have r0 := rowV.new w 25 #[.slice A n c, .int .i64 L, .slice A' n' c']
  have hx0 := hx.below g0
  have hT0 := hT.below g0
  have hM0 := hM.below g0
  obtain ⟨w0, hw0⟩ : ∃ w0, w0 = w.alloc (.cells #[.slice A n c, .int .i64 L, .slice A' n' c'] 25) := ⟨_, rfl⟩
  rw [← hw0] at g0 r0 hx0 hT0 hM0
  obtain ⟨c0, c1, c2⟩ := three_cells r0
  have HF := Lib.hid (few_any A A' n c n' c' L w0)
  have Hw0 := Lib.hid hw0
  clear hw0
  go_enter Tryd.func7, Tryd.ntmps7
  go_upto_region 1 with (fail)
  rw [← Hw0.out]
  clear Hw0
  go_wp2_with fail
  refine HF.out.mono ?_
  rintro e w1 ⟨rfl, hb1⟩
  have b1 := g0.trans (hb1.mono g0.size)
  have r1 := r0.below hb1 r0.lt
  have hx1 := hx0.below hb1
  have hT1 := hT0.below hb1
  have hM1 := hM0.below hb1
  clear HF c0 c1 c2 r0 hx0 hb1 hT0 hM0
  obtain ⟨c0, c1, c2⟩ := three_cells r1
  cases fewB n n' with
  | false =>
    go_wp2_with fail
    refine (awake_any w1 hT1).mono ?_
    rintro e w2 ⟨rfl, hb2⟩
    go_wp2_with fail
    go_ret
    exact ⟨rfl, b1.trans (hb2.mono b1.size)⟩
  | true =>
    have H1 := Lib.hid (print_any A A' n c n' c' L p w1 hx1 hT1)
    have HZ := Lib.hid (fun h => printE_zero (p := p) h)
    have HX0 : Hid (printE p = 0 → exAll p = true) := fun h => by
      cases he : exAll p with
      | true => rfl
      | false => rw [(printE_none (printE_zero h).1 he).1] at h; cases h
    obtain ⟨T, hTe⟩ : ∃ T, T = printT p := ⟨_, rfl⟩
    obtain ⟨E, hE⟩ : ∃ E, E = printE p := ⟨_, rfl⟩
    rw [← hTe, ← hE] at H1 HZ
    rw [← hE] at HX0
    clear hTe hE
    go_wp2_with fail
    refine H1.out.mono ?_
    rintro e w2 ⟨rfl, hb2⟩
    have b2 := b1.trans (hb2.mono b1.size)
    have r2 := r1.below hb2 r1.lt
    have hx2 := hx1.below hb2
    have hT2 := hT1.below hb2
    have hM2 := hM1.below hb2
    clear H1 c0 c1 c2 r1 hx1 hb2 hT1 hM1
    obtain ⟨c0, c1, c2⟩ := three_cells r2
    by_cases hE : E = 0
    · have d1 : (E != 0) = false := by simp [hE]
      obtain ⟨hform, hTT⟩ := HZ.out hE
      have HEx := Lib.hid (HX0.out hE)
      have HF := Lib.hid hform
      obtain ⟨f1, f2, f3, f4, f5, f6⟩ := formE_ok hform
      have hok := prgOk_of hform (fun i hi => (hx2.code.2.2.1 i hi).1)
      have hlen := textL_le hform (fun i hi => (hx2.code.2.2.1 i hi).2.1)
      have Hsz := Lib.hid (linesL_le hform (fun i hi => (hx2.code.2.2.1 i hi).2.1)).2
      have H2 := Lib.hid (split_any (linesL p) w2 hM2 (nl_lines hok) (by unfold textL at hlen; omega))
      have Hll : Hid ((linesL p).length = n + L.toNat + n') := by show _ = _; rw [linesL_length, HnA.out, HnC.out, ← HL.out]
      rw [HnA.out] at f1
      rw [HnC.out] at f5
      rw [← HL.out] at f3 f4
      rw [show nlAll (linesL p) = textL p from rfl, ← hTT] at H2
      have Hok := Lib.hid hok
      clear f2 f6 hform hTT hE HZ HX0 hok hlen
      obtain ⟨l, rfl⟩ : ∃ l : Nat, L = (l : Int) := ⟨L.toNat, by omega⟩
      obtain ⟨Z, hZ⟩ : ∃ Z, Z = (linesL p).length := ⟨_, rfl⟩
      rw [← hZ] at H2
      have hZn : Z = n + l + n' := by rw [hZ, Hll.out]; simp
      clear hZ
      go_wp2_with fail
      refine H2.out.mono ?_
      rintro e w3 ⟨rfl, rl, hb3⟩
      have hgl : w2.heap.size < w3.heap.size := rl.lt
      obtain ⟨g, hg⟩ : ∃ g, g = w2.heap.size := ⟨_, rfl⟩
      rw [← hg] at rl hgl ⊢
      have b3 := b2.trans (hb3.mono b2.size)
      have r3 := r2.below hb3 r2.lt
      have hx3 := hx2.below hb3
      have hT3 := hT2.below hb3
      have hM3 := hM2.below hb3
      clear H2 c0 c1 c2 r2 hx2 hb3 hT2 hM2 hg
      obtain ⟨c0, c1, c2⟩ := three_cells r3
      have hlast : w3.cell? ⟨g, Z, none⟩ = some (.string ⟨#[]⟩) := by
        have := rl.cell (j := Z) [] (by simp; rw [Hll.out]; simp; omega)
        rw [this]
        have e : (linesL p ++ [[]]).getD Z [] = [] := by rw [List.getD_eq_getElem?_getD, List.getElem?_append_right (by rw [Hll.out]; simp; omega)]; simp [show Z - (linesL p).length = 0 by rw [Hll.out]; simp; omega]
        rw [e]; rfl
      have HLn : Hid (∀ k, k < Z → w3.cell? ⟨g, k, none⟩ = some (.string (strB (gL p k)))) := fun k hk => by
        have := rl.cell (j := k) [] (by simp; rw [Hll.out]; simp; omega)
        rw [this]
        show some (encT _) = some (encT _)
        unfold gL
        rw [List.getD_eq_getElem?_getD, List.getD_eq_getElem?_getD, List.getElem?_append_left (by rw [Hll.out]; simp; omega)]
      have z1 : ((Z : Int) + 1 != (n : Int) + (l : Int) + (n' : Int) + 1) = false := by simp; omega
      have z2 : (Z : Int) + 1 - 1 = (Z : Int) := by omega
      have hZ1 : Z ≤ 100000 := by omega
      have HZn := Lib.hid hZn
      clear hZn
      have hne1 : ((⟨#[98, 121, 116, 101, 115]⟩ : ByteArray).toList == (⟨#[119, 111, 114, 100, 115]⟩ : ByteArray).toList) = false := by kernel_rfl
      have hne2 : ((⟨#[119, 111, 114, 100, 115]⟩ : ByteArray).toList == (⟨#[98, 121, 116, 101, 115]⟩ : ByteArray).toList) = false := by kernel_rfl
      have Hn1 := Lib.hid hne1
      have Hn2 := Lib.hid hne2
      clear hne1 hne2
      go_wp2_with fail
      clear hlast
      go_loopw [7] (fun i wr => ∃ k : Nat, k ≤ Z ∧ i = .int .i64 (k : Int) ∧ Below w3.heap.size w3 wr) (fun i _ => Z - (intOf i).toNat)
      case atStart => exact ⟨0, Nat.zero_le _, rfl, Below.refl _ _⟩
      case round =>
        clear c0 c1 c2
        obtain ⟨k, hk, rfl, hbr⟩ := hrel
        have rr := r3.below hbr r3.lt
        have hxr := hx3.below hbr
        have hTr := hT3.below hbr
        have hMr := hM3.below hbr
        have HB3 := Lib.hid (b3.trans (hbr.mono b3.size))
        obtain ⟨c0, c1, c2⟩ := three_cells rr
        by_cases hlt : k < Z
        · have e1 : decide ((k : Int) < (Z : Int)) = true := by simp; omega
          have e1' : decide (k < Z) = true := by simp; omega
          have hline := (hbr.cell (p := ⟨g, k, none⟩) hgl).trans (HLn.out k hlt)
          by_cases hA : k < n
          · have eA : decide ((k : Int) < (n : Int)) = true := by simp; omega
            have eA' : decide (k < n) = true := by simp; omega
            have eN : decide ((k : Int) < (n : Int) + (l : Int)) = true := by simp; omega
            rw [gL_arr (by rw [HnA.out]; exact hA)] at hline
            have HQ : Hid (Lib.trimLeftB (arrL k (gA p.arrs k)) 32 = arrL k (gA p.arrs k)) := trim_no (arrL_head _ _)
            have HE2 : Hid (endOk (arrL k (gA p.arrs k))) := endOk_arr _ _
            have hle := Hsz.out (gL p k) (by unfold gL; rw [List.getD_eq_getElem?_getD, List.getElem?_eq_getElem (by rw [Hll.out]; simp; have := HZn.out; omega)]; exact List.getElem_mem _)
            rw [gL_arr (by rw [HnA.out]; exact hA)] at hle
            obtain ⟨r, hr⟩ := arrL_split k (gA p.arrs k)
            rw [hr] at hline HQ HE2 hle
            clear hr
            obtain ⟨b, off, rfl, hbl, hcell⟩ := hxr.arrs.get hA
            obtain ⟨q1, -⟩ := hcell k hA
            clear hcell
            obtain ⟨wd, hwd⟩ : ∃ wd, wd = (gA p.arrs k).word := ⟨_, rfl⟩
            rw [← hwd] at hline HQ HE2 hle q1
            clear hwd
            have HW := Lib.hid (word_any (kindL wd) r wr hMr (kind_no wd) (by omega))
            have HT1 : Hid (Calls Tryd.prog 19 #[.string (strB (kindL wd ++ 32 :: r)), .string ⟨#[32]⟩] wr fun e w' => e = .returned (.string (strB (kindL wd ++ 32 :: r))) ∧ w' = wr) := by
              have := trim_any (kindL wd ++ 32 :: r) wr
              rwa [HQ.out] at this
            have HS1 := Lib.hid (suffix_any (kindL wd ++ 32 :: r) wr HE2.out (by omega))
            obtain ⟨s, hs⟩ : ∃ s, s = strB (kindL wd ++ 32 :: r) := ⟨_, rfl⟩
            rw [← hs] at hline HW HT1 HS1
            clear hs HQ HE2 hle
            go_wp2_with fail
            refine HT1.out.mono ?_
            rintro e w5 ⟨rfl, hw5⟩
            obtain rfl : wr = w5 := hw5.symm
            go_wp2_with fail
            refine HS1.out.mono ?_
            rintro e w5 ⟨rfl, hw5⟩
            obtain rfl : wr = w5 := hw5.symm
            go_wp2_with fail
            refine HW.out.mono ?_
            rintro e w6 ⟨rfl, hc6, hb6⟩
            have r6 := rr.below hb6 rr.lt
            have q6 := (hb6.cell (p := ⟨b, off + k * 2, none⟩) hbl).trans q1
            clear c0 c1 c2 q1 hline HW HT1 HS1
            obtain ⟨c0, c1, c2⟩ := three_cells r6
            have b6 := hbr.trans (hb6.mono hbr.size)
            have hne1 := Hn1.out
            have hne2 := Hn2.out
            cases wd with
            | false =>
              have hc7 : w6.cell? ⟨wr.heap.size, 0, none⟩ = some (.string ⟨#[98, 121, 116, 101, 115]⟩) := hc6
              clear hc6
              go_wp2_with fail
              go_roundw
              case rel => exact ⟨k + 1, by omega, by go_num, b6⟩
              case measure => simp [intOf]; omega
            | true =>
              have hc7 : w6.cell? ⟨wr.heap.size, 0, none⟩ = some (.string ⟨#[119, 111, 114, 100, 115]⟩) := hc6
              clear hc6
              go_wp2_with fail
              go_roundw
              case rel => exact ⟨k + 1, by omega, by go_num, b6⟩
              case measure => simp [intOf]; omega
          · have eA : decide ((k : Int) < (n : Int)) = false := by simp; omega
            have eA' : decide (k < n) = false := by simp; omega
            by_cases hB : k < n + l
            · have eN : decide ((k : Int) < (n : Int) + (l : Int)) = true := by simp; omega
              obtain ⟨j, rfl⟩ : ∃ j, k = n + j := ⟨k - n, by omega⟩
              have hgl2 : gL p (n + j) = locL j := by
                have := gL_loc (p := p) (i := j) (by rw [← HL.out]; simp; omega)
                rwa [HnA.out] at this
              rw [hgl2] at hline
              have hle := locL_le (k := j) (by omega)
              have HT1 : Hid (Calls Tryd.prog 19 #[.string (strB (locL j)), .string ⟨#[32]⟩] wr fun e w' => e = .returned (.string (strB (locL j))) ∧ w' = wr) := by
                have := trim_any (locL j) wr
                rwa [trim_no (locL_head _)] at this
              have HS1 := Lib.hid (suffix_any (locL j) wr (endOk_loc j) (by omega))
              have HP1 := Lib.hid (prefix_any j wr)
              obtain ⟨s, hs⟩ : ∃ s, s = strB (locL j) := ⟨_, rfl⟩
              rw [← hs] at hline HT1 HS1 HP1
              clear hs hle hgl2
              go_wp2_with fail
              refine HT1.out.mono ?_
              rintro e w5 ⟨rfl, hw5⟩
              obtain rfl : wr = w5 := hw5.symm
              go_wp2_with fail
              refine HS1.out.mono ?_
              rintro e w5 ⟨rfl, hw5⟩
              obtain rfl : wr = w5 := hw5.symm
              go_wp2_with fail
              refine HP1.out.mono ?_
              rintro e w5 ⟨rfl, hw5⟩
              obtain rfl : wr = w5 := hw5.symm
              go_wp2_with fail
              go_roundw
              case rel => exact ⟨n + j + 1, by omega, by go_num, hbr⟩
              case measure => simp [intOf]; omega
            · have eN : decide ((k : Int) < (n : Int) + (l : Int)) = false := by simp; omega
              obtain ⟨j, hj0⟩ : ∃ j, k = n + l + j := ⟨k - (n + l), by omega⟩
              have hj : j < n' := by have := HZn.out; omega
              have hgl2 : gL p k = rowL p.code j := by
                rw [hj0]
                have := gL_row (p := p) (i := j) (by rw [HnC.out]; exact hj)
                rw [HnA.out, ← HL.out] at this
                simpa using this
              rw [hgl2] at hline
              have hio := Hok.out.code (gI p.code j) (gI_mem (by rw [HnC.out]; exact hj))
              have hag := (hxr.code.arg hj)
              have hle := rowL_le (c := p.code) (k := j) hag.2.1
              have hll := lineL_le hag.2.1
              obtain ⟨d, hd⟩ : ∃ d, d = dSp (dAt p.code j) (gI p.code j).op := ⟨_, rfl⟩
              have hrow : rowL p.code j = spL d ++ lineL (gI p.code j) := by rw [hd]; rfl
              rw [hrow] at hline hle
              have hlo := lineE_ok (p := p) (k := j) HF.out (by rw [HnC.out]; exact hj) (exAll_at HEx.out (by rw [HnC.out]; exact hj))
              have HLi := Lib.hid (lineP_any A A' n c n' c' (l : Int) (j : Int) p wr hxr (by simp [Lit.wf, IntKind.min, IntKind.max, IntKind.bits, IntKind.signed]; omega) hTr)
              rw [hlo.1, hlo.2] at HLi
              unfold RetSE at HLi
              have HT1 : Hid (Calls Tryd.prog 19 #[.string (strB (spL d ++ lineL (gI p.code j))), .string ⟨#[32]⟩] wr fun e w' => e = .returned (.string (strB (lineL (gI p.code j)))) ∧ w' = wr) := by
                have := trim_any (spL d ++ lineL (gI p.code j)) wr
                rwa [trim_sp (lineL_head hio)] at this
              have HS1 := Lib.hid (suffix_any (lineL (gI p.code j)) wr (endOk_line hio) (by omega))
              have hs1 : (strB (spL d ++ lineL (gI p.code j))).size = (strB (lineL (gI p.code j))).size + 2 * d := by
                rw [strB_size, strB_size]; unfold spL; rw [List.length_append, List.length_replicate]; omega
              have hs2 : (strB (lineL (gI p.code j))).size ≤ 113 := by rw [strB_size]; exact hll
              have hdl : d ≤ 2000 := by
                rw [List.length_append] at hle; unfold spL at hle; rw [List.length_replicate] at hle; omega
              obtain ⟨s, hs⟩ : ∃ s, s = strB (spL d ++ lineL (gI p.code j)) := ⟨_, rfl⟩
              obtain ⟨s', hs'⟩ : ∃ s', s' = strB (lineL (gI p.code j)) := ⟨_, rfl⟩
              rw [← hs] at hline HT1 hs1
              rw [← hs'] at HT1 HS1 hs1 hs2 HLi
              clear hs hs' hle hgl2 hio hag hll hrow hd hlo
              obtain ⟨S1, hS1⟩ : ∃ S1 : Nat, S1 = s.size := ⟨_, rfl⟩
              obtain ⟨S2, hS2⟩ : ∃ S2 : Nat, S2 = s'.size := ⟨_, rfl⟩
              obtain ⟨X2, hX2⟩ : ∃ X2 : Nat, X2 = 2 * d := ⟨_, rfl⟩
              have hdf : (s.size : Int) - (s'.size : Int) = (X2 : Int) := by omega
              have hmd : Int.tmod (X2 : Int) 2 = 0 := by
                rw [Int.tmod_eq_emod_of_nonneg (by omega)]; omega
              have hxl : X2 ≤ 4000 := by omega
              have hjj : (k : Int) - ((n : Int) + (l : Int)) = (j : Int) := by omega
              clear hs1 hS1 hS2 hX2 hj0
              go_wp2_with fail
              refine HT1.out.mono ?_
              rintro e w5 ⟨rfl, hw5⟩
              obtain rfl : wr = w5 := hw5.symm
              go_wp2_with fail
              refine HS1.out.mono ?_
              rintro e w5 ⟨rfl, hw5⟩
              obtain rfl : wr = w5 := hw5.symm
              go_wp2_with fail
              refine HLi.out.mono ?_
              rintro e w6 ⟨rfl, hb6⟩
              have b6 := hbr.trans (hb6.mono hbr.size)
              go_wp2_with fail
              go_roundw
              case rel => exact ⟨k + 1, by omega, by go_num, b6⟩
              case measure => simp [intOf]; omega
        · have e1 : decide ((k : Int) < (Z : Int)) = false := by simp; omega
          have e1' : decide (k < Z) = false := by simp; omega
          go_wp2_with fail
          refine (awake_any _ hTr).mono ?_
          rintro e w5 ⟨rfl, hb5⟩
          go_wp2_with fail
          go_ret
          exact ⟨rfl, HB3.out.trans (hb5.mono HB3.out.size)⟩
    · have d1 : (E != 0) = true := by simp [hE]
      go_wp2_with fail
      refine (awake_any w2 hT2).mono ?_
      rintro e w3 ⟨rfl, hb3⟩
      go_wp2_with fail
      go_ret
      exact ⟨rfl, b2.trans (hb3.mono b2.size)⟩
end Go.Proofs.YtmijalhilalaoaaDoor
