/- No. -/
import Derived.Test.YtckkmafppfcecaaGreatDoorCN26
/- Encode; Forward of layer 36. -/
namespace Go.Proofs.YtckkmafppfcecaaGreatDoor
open Go.RowKit Go.Proofs
set_option linter.unusedVariables false
set_option linter.unusedSimpArgs false

set_option maxRecDepth 100000 in
set_option maxHeartbeats 8000000 in
theorem encode_any (A : Option Addr) (n c : Nat) (l : List Tok) (w : World) (hx : Toks w A n c l) (hl : ∀ t ∈ l, TokLim t) (hn : n ≤ 1000000000) : Calls Tryz.prog 122 #[.slice A n c] w (RetBytes w (encT l).1 (encT l).2) := by
  have hln := hx.1
  have hck := lcheck_any A n c l w hx hl hn
  by_cases h0 : chkL l = 0
  · rw [h0] at hck
    have HCK := Lib.hid hck
    have hE : encT l = if 524288 < sumP l then ([], 5) else (pack (bitsL l), 0) := by unfold encT; rw [if_pos h0]
    have hn6 : n ≤ 65536 := by
      unfold chkL at h0
      split at h0
      · cases h0
      · omega
    have hF : chkF l 0 = 0 := by unfold chkL at h0; rw [if_neg (by omega)] at h0; exact h0
    have hR := chkF_right l 0 hF
    have HE := Lib.hid hE
    have HX := Lib.hid hx
    have HL := Lib.hid hl
    have HR := Lib.hid hR
    have hsb := sumP_bnd l
    have hbt := bits_take l hR
    have HBT := Lib.hid hbt
    clear hck h0 hE hF hR hx hl hbt
    go_enter Tryz.func122, Tryz.ntmps122
    go_wp2_with fail
    refine HCK.out.mono ?_
    rintro e w1 ⟨rfl, hb1⟩
    have HB1 := Lib.hid hb1
    clear hb1 HCK
    go_wp2_with fail
    go_loopw [5, 7, 18] (fun s _ i wr => ∃ k : Nat, k ≤ n ∧ i = .int .i64 (k : Int) ∧ s = .int .i64 (sumP (l.take k)) ∧ Hid (Below w.heap.size w wr)) (fun _ _ i _ => n - (intOf i).toNat)
    case atStart => exact ⟨0, Nat.zero_le _, rfl, rfl, HB1⟩
    case round =>
      obtain ⟨k, hk, rfl, rfl, HB⟩ := hrel
      by_cases hlt : k < n
      · have d1 : decide ((k : Int) < (n : Int)) = true := decide_eq_true (by omega)
        have d1' : decide (k < n) = true := decide_eq_true hlt
        obtain ⟨b, off, rfl, hbl, hcc⟩ := (HX.out.below HB.out (Nat.le_refl _)).2.2 (by omega)
        obtain ⟨x0, x1, x2⟩ := hcc k hlt
        have hkl : k < l.length := by omega
        have hlim := HL.out _ (tG_mem hkl)
        have hsn := sumP_next hkl
        have hs1 := sumP_bnd (l.take k)
        have htl : (l.take k).length ≤ n := by rw [List.length_take]; omega
        have hp1 := pri_lo (tG l k)
        have hp2 := pri_hi (tG l k)
        obtain ⟨t, ht⟩ : ∃ t, t = tG l k := ⟨_, rfl⟩
        rw [← ht] at x0 x1 x2 hlim hsn hp1 hp2
        obtain ⟨wa, hwa⟩ : ∃ wa, wa = wr.alloc (.cells (tokV t) 223) := ⟨_, rfl⟩
        have hba : Below wr.heap.size wr wa := by rw [hwa]; exact balloc (Below.refl _ _) _
        have ra : rowV wa wr.heap.size 223 (tokV t) := by rw [hwa]; exact rowV.new wr _ _
        have z0 : wa.cell? ⟨wr.heap.size, 0, none⟩ = some (.int .i64 (t.len : Int)) := ra.cell rfl
        have z1 : wa.cell? ⟨wr.heap.size, 1, none⟩ = some (.int .i64 (t.dst : Int)) := ra.cell rfl
        have z2 : wa.cell? ⟨wr.heap.size, 2, none⟩ = some (.int .u8 (t.byt.toNat : Int)) := ra.cell rfl
        rw [hwa] at z0 z1 z2
        have HP := Lib.hid (price_any t wa hlim)
        have HBA := Lib.hid (HB.out.trans (hba.mono HB.out.size))
        have HWA := Lib.hid hwa
        obtain ⟨pr, hpr⟩ : ∃ pr, pr = priT t := ⟨_, rfl⟩
        obtain ⟨sk, hsk⟩ : ∃ sk, sk = sumP (l.take k) := ⟨_, rfl⟩
        rw [← hpr] at HP hsn hp1 hp2
        rw [← hsk] at hsn hs1 ⊢
        have HSN := Lib.hid hsn
        have hsb2 : 0 ≤ sk ∧ sk ≤ 2700000 := by omega
        clear ra hba hwa ht hlim hcc hsn hs1 htl hpr hsk
        go_wp2_with (refine wpList_store_new rfl 223 (.tmp 7) (.tmp 21) rfl (tokV t) 223 _ rfl rfl (tokV_info t) rfl (tokV_all t) ?_)
        rw [← HWA.out]
        refine HP.out.mono ?_
        rintro e w3 ⟨rfl, hb3⟩
        have HB3 := Lib.hid (HBA.out.trans (hb3.mono HBA.out.size))
        clear hb3 z0 z1 z2
        go_wp2_with fail
        go_roundw
        case rel => exact ⟨k + 1, by omega, by go_num, by rw [HSN.out], HB3⟩
        case measure => (simp [intOf]) <;> omega
      · obtain rfl : n = k := by omega
        obtain ⟨wo, rfl⟩ : ∃ wo, wo = wr := ⟨wr, rfl⟩
        have d1 : decide ((n : Int) < (n : Int)) = false := by simp
        have htk : l.take n = l := List.take_of_length_le (by omega)
        rw [htk]
        have HTK := Lib.hid htk
        clear htk
        by_cases hbig : 524288 < sumP l
        · have d2 : decide (524288 < sumP l) = true := decide_eq_true hbig
          have HE2 : Hid (encT l = ([], 5)) := by show _ = _; rw [HE.out, if_pos hbig]
          clear hbig
          go_wp2_with fail
          go_ret2
          rw [HE2.out]
          exact RetBytes.err rfl HB.out
        · have d2 : decide (524288 < sumP l) = false := decide_eq_false hbig
          have HE2 : Hid (encT l = (pack (bitsL l), 0)) := by show _ = _; rw [HE.out, if_neg hbig]
          have HBB : Hid (∀ k, (bitsL (l.take k)).length ≤ 524288) := fun k => by have := HBT.out k; omega
          obtain ⟨w5, hw5⟩ : ∃ w5, w5 = wo.alloc (.cells #[.slice none 0 0, .int .i64 0, .int .i64 0] 229) := ⟨_, rfl⟩
          have hb5 : Below wo.heap.size wo w5 := by rw [hw5]; exact balloc (Below.refl _ _) _
          have r5 : rowV w5 wo.heap.size 229 #[.slice none 0 0, .int .i64 0, .int .i64 0] := by rw [hw5]; exact rowV.new wo _ _
          have hp0 : pack (bitsL (l.take 0)) = [] := by rw [List.take_zero]; rfl
          have hp1 : (bitsL (l.take 0)).length = 0 := by rw [List.take_zero]; rfl
          have hst : StB wo.heap.size w5 wo.heap.size (bitsL (l.take 0)) := ⟨none, 0, 0, ⟨by rw [hp1]; exact r5, by rw [hp0]; exact Own.nil _ _ _ _, Nat.le_refl _, hb5.size⟩⟩
          obtain ⟨g, hg⟩ : ∃ g, g = wo.heap.size := ⟨_, rfl⟩
          rw [← hg] at hst hb5
          have hwg : w.heap.size ≤ g := by rw [hg]; exact HB.out.size
          have HI5 : Hid (StB g w5 g (bitsL (l.take 0)) ∧ Below g wo w5) := ⟨hst, hb5⟩
          have HW5 := Lib.hid hw5
          have HG := Lib.hid hg
          have HWG := Lib.hid hwg
          clear hw5 hb5 r5 hst hbig hp0 hp1 hg
          go_wp2_with fail
          rw [← HW5.out, ← HG.out]
          go_loopw [10, 33] (fun _ i wr => ∃ k : Nat, k ≤ n ∧ i = .int .i64 (k : Int) ∧ Hid (StB g wr g (bitsL (l.take k)) ∧ Below g wo wr)) (fun _ i _ => n - (intOf i).toNat)
          case atStart => exact ⟨0, Nat.zero_le _, rfl, HI5⟩
          case round =>
            obtain ⟨k, hk, rfl, HI⟩ := hrel
            have hbw : Below w.heap.size w wr := HB.out.trans (HI.out.2.mono HWG.out)
            by_cases hlt : k < n
            · have d3 : decide ((k : Int) < (n : Int)) = true := decide_eq_true (by omega)
              have d3' : decide (k < n) = true := decide_eq_true hlt
              obtain ⟨b, off, rfl, hbl, hcc⟩ := (HX.out.below hbw (Nat.le_refl _)).2.2 (by omega)
              obtain ⟨x0, x1, x2⟩ := hcc k hlt
              have hkl : k < l.length := by omega
              have hlim := HL.out _ (tG_mem hkl)
              have hrt := HR.out _ (tG_mem hkl)
              have hbn := bitsL_next hkl
              obtain ⟨t, ht⟩ : ∃ t, t = tG l k := ⟨_, rfl⟩
              rw [← ht] at x0 x1 x2 hlim hbn hrt
              obtain ⟨wa, hwa⟩ : ∃ wa, wa = wr.alloc (.cells (tokV t) 223) := ⟨_, rfl⟩
              have hba : Below wr.heap.size wr wa := by rw [hwa]; exact balloc (Below.refl _ _) _
              have ra : rowV wa wr.heap.size 223 (tokV t) := by rw [hwa]; exact rowV.new wr _ _
              have z0 : wa.cell? ⟨wr.heap.size, 0, none⟩ = some (.int .i64 (t.len : Int)) := ra.cell rfl
              have z1 : wa.cell? ⟨wr.heap.size, 1, none⟩ = some (.int .i64 (t.dst : Int)) := ra.cell rfl
              have z2 : wa.cell? ⟨wr.heap.size, 2, none⟩ = some (.int .u8 (t.byt.toNat : Int)) := ra.cell rfl
              rw [hwa] at z0 z1 z2
              have HT := Lib.hid (stoken_any g g t (bitsL (l.take k)) wa (HI.out.1.grow hba) hrt hlim (by have := HBB.out k; omega))
              have HBA : Hid (Below g wo wa) := HI.out.2.trans (hba.mono (Nat.le_of_lt HI.out.1.lt.1))
              have HWA := Lib.hid hwa
              have HBN := Lib.hid hbn
              clear ra hba hwa ht hlim hcc hrt hbn hbw
              go_wp2_with (refine wpList_store_new rfl 223 (.tmp 10) (.tmp 36) rfl (tokV t) 223 _ rfl rfl (tokV_info t) rfl (tokV_all t) ?_)
              rw [← HWA.out]
              refine HT.out.mono ?_
              rintro e w6 ⟨rfl, hs6, hk6⟩
              have HF : Hid (StB g w6 g (bitsL (l.take (k + 1))) ∧ Below g wo w6) := ⟨by rw [HBN.out]; exact hs6, HBA.out.trans hk6.below⟩
              clear hs6 hk6 z0 z1 z2
              go_wp2_with fail
              go_roundw
              case rel => exact ⟨k + 1, by omega, by go_num, HF⟩
              case measure => (simp [intOf]) <;> omega
            · obtain rfl : n = k := by omega
              have d3 : decide ((n : Int) < (n : Int)) = false := by simp
              obtain ⟨⟨A5, m5, c5, hst5⟩, hb5⟩ := HI.out
              rw [HTK.out] at hst5
              have y0 : wr.cell? ⟨g, 0, none⟩ = some (.slice A5 m5 c5) := hst5.row.cell rfl
              have HFB := Lib.hid hst5.own.bytesB
              have HBW := Lib.hid hbw
              clear hst5 hb5 hbw
              go_wp2_with fail
              go_ret2
              rw [HE2.out]
              exact RetBytes.mk rfl HFB.out HBW.out
  · have hE : encT l = ([], chkL l) := by unfold encT; rw [if_neg h0]
    have HE := Lib.hid hE
    have q0 : (chkL l == 0) = false := by simpa using h0
    obtain ⟨er, her⟩ : ∃ er, er = chkL l := ⟨_, rfl⟩
    rw [← her] at hck q0 h0 HE
    have HCK := Lib.hid hck
    clear hck hE her hx hl
    go_enter Tryz.func122, Tryz.ntmps122
    go_wp2_with fail
    refine HCK.out.mono ?_
    rintro e w1 ⟨rfl, hb1⟩
    have HB1 := Lib.hid hb1
    clear hb1
    go_wp2_with fail
    go_ret2
    rw [HE.out]
    exact RetBytes.err rfl HB1.out
theorem opt_lim {bs : List UInt8} : ∀ (d i : Nat), bs.length - i = d → ∀ t ∈ optF bs i, TokLim t := by
  intro d
  induction d using Nat.strongRecOn with
  | _ d ih =>
    intro i hd t ht
    by_cases h : i < bs.length
    · rw [optF_more h, List.mem_cons] at ht
      have h4 := tsz_pos (stepAt bs i)
      rcases ht with rfl | ht
      · exact tok_lim (step_at h)
      · exact ih _ (by omega) _ rfl t ht
    · rw [optF_end (by omega)] at ht; cases ht
set_option maxRecDepth 100000 in
theorem lzF_any (A : Option Addr) (n c : Nat) (bs : List UInt8) (w : World) (hx : Bytes w A n c bs) (hn : n ≤ 1000000000) :
    Calls Tryz.prog 65 #[.slice A n c] w (RetBytes w (lzF bs).1 (lzF bs).2) := by
  have hl := hx.1
  by_cases h6 : 65536 < n
  · have HR : Hid (lzF bs = ([], 5)) := by show _ = _; unfold lzF; rw [hl, if_pos h6]
    have HO := Lib.hid (optimal_long A n c w h6 hn)
    rw [HR.out]
    clear h6 hx
    go_enter Tryz.func65, Tryz.ntmps65
    go_wp2_with fail
    refine HO.out.mono ?_
    rintro e w1 ⟨rfl, hw⟩
    obtain rfl : w = w1 := hw.symm
    go_wp2_with fail
    go_ret2
    exact RetBytes.err rfl (Below.refl _ _)
  · have HR : Hid (lzF bs = encT (optL bs)) := by show _ = _; unfold lzF; rw [hl, if_neg h6]
    have HO := Lib.hid (optimal_any A n c bs w hx (by omega))
    rw [HR.out]
    have hlim : ∀ t ∈ optL bs, TokLim t := opt_lim _ 0 rfl
    have hlen : (optL bs).length ≤ 65536 := by have := (optF_check (bs := bs) (by omega) _ 0 rfl).2; unfold optL; omega
    obtain ⟨r, hr⟩ : ∃ r, r = encT (optL bs) := ⟨_, rfl⟩
    have HE := Lib.hid (fun A n c W hW hn => encode_any A n c (optL bs) W hW hlim hn)
    rw [← hr] at HE ⊢
    clear h6 hx hlim hr
    go_enter Tryz.func65, Tryz.ntmps65
    go_wp2_with fail
    refine HO.out.mono ?_
    rintro e w1 ⟨A1, m1, c1, rfl, ho1, hb1⟩
    have hm1 := ho1.length (fun _ => rfl) (by decide)
    have HT := Lib.hid (HE.out A1 m1 c1 w1 ho1.toks (by omega))
    have HB := Lib.hid hb1
    clear ho1 hb1
    go_wp2_with fail
    refine HT.out.mono ?_
    rintro e w2 ⟨A2, n2, c2, rfl, hx2, hb2⟩
    have HF := Lib.hid (And.intro hx2 (HB.out.trans (hb2.mono HB.out.size)))
    clear hx2 hb2
    go_wp2_with fail
    go_ret2
    exact RetBytes.mk rfl HF.out.1 HF.out.2
theorem lzF_length {bs : List UInt8} : (lzF bs).1.length ≤ 65536 := by
  unfold lzF
  split
  · exact Nat.zero_le _
  · unfold encT
    split
    · rename_i h6 hck
      split
      · exact Nat.zero_le _
      · rename_i h5
        have hcF : chkF (optL bs) 0 = 0 := (optF_check (by omega) _ 0 rfl).1
        have hb := bits_price (optL bs) (chkF_right _ _ hcF)
        show (pack (bitsL (optL bs))).length ≤ _
        rw [pack_length]
        omega
    · exact Nat.zero_le _
end Go.Proofs.YtckkmafppfcecaaGreatDoor
