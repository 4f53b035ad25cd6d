/- Contract of suffix.Common. -/
import Derived.Test.YtkndcbnajkiceaaWl
import Derived.Test.YtkndcbnajkiceaaPk
namespace Go.Proofs.Ytkndcbnajkiceaa
open Go.RowKit Go.Proofs
set_option linter.unusedVariables false

set_option maxRecDepth 100000 in
set_option maxHeartbeats 2000000 in
theorem common2_any (A B : Option Addr) (c n d m : Nat) (bs : List UInt8) (zs : List Int) (w : World) (hx : Bytes w A n c bs) (hy : Ints w B m d zs) (hn : n ≤ 65536) (hm : m ≤ 65537) :
    Calls Try.prog 18 #[.slice A n c, .slice B m d] w (RetInts w (commonOut bs zs) (checkErr bs zs)) := by
  have hcal := check_any A B c n d m bs zs w hx hy hn hm
  have Hcal := Lib.hid hcal; clear hcal
  by_cases hp : checkErr bs zs = 0
  · have d2 : (checkErr bs zs != 0) = false := by simp [hp]
    obtain ⟨hv1, hv2, hv3, hv4⟩ := checkErr_zero hp
    have hlm := hy.1
    have hln := hx.1
    have hso := pairwise_of_ascB hv4
    have hre : ranksErr zs = 0 := by unfold ranksErr; rw [if_neg (by omega)]; exact hv3
    have hro : ranksOut zs = ranksL zs := by unfold ranksOut; rw [if_pos hre]
    have hz : ∀ i, i < m → 0 ≤ gi zs i ∧ gi zs i ≤ n := fun i hi => by
      have := ((permErr_zero_iff zs).1 hv3).1 (gi zs i) (gi_mem (by omega))
      omega
    obtain rfl : m = n + 1 := by omega
    have HZ := Lib.hid hz; clear hz
    have Hp := Lib.hid hp; clear hp
    have Hs := Lib.hid hso; clear hso
    have H2 := Lib.hid hv2; clear hv2
    have H3 := Lib.hid hv3; clear hv3
    have Hn := Lib.hid hln; clear hln
    have Hm := Lib.hid hlm; clear hlm
    have Hre := Lib.hid hre
    have d3 : (ranksErr zs != 0) = false := by simp [hre]
    clear hv1 hv4 hre
    have Hro := Lib.hid hro; clear hro
    have hmk := run_make_row (P := Try.prog) (enc := Value.int .i64) uI infoI rfl ((n + 1 : Nat) : Int) (by omega) (by omega) (by omega)
    rw [Int.toNat_natCast] at hmk
    have hmk' : ∀ W : World, (Instr.makeSlice 24 (.int .i64 ((n : Int) + 1)) (.int .i64 ((n : Int) + 1))).run Try.prog W = .ok (.slice (some ⟨W.heap.size, 0, none⟩) (n + 1) (n + 1)) (W.alloc (rowObj (Value.int .i64) 3 (List.replicate (n + 1) 0))) := fun W => by
      have := hmk W
      rwa [show (((n + 1 : Nat)) : Int) = (n : Int) + 1 by omega] at this
    clear hmk
    go_enter Try.func18, Try.ntmps18
    go_wp2_with fail
    refine Hcal.out.mono ?_
    rintro e w1 ⟨rfl, hb1⟩
    have hx1 := hx.below hb1
    have hy1 := hy.below hb1
    have hrk := ranks_any B d (n + 1) zs w1 hy1 hm
    have Hrk := Lib.hid hrk; clear hrk Hcal
    go_wp2_with fail
    refine Hrk.out.mono ?_
    rintro e w2 ⟨A2, n2, c2, rfl, hs2, hb2⟩
    rw [Hro.out] at hs2
    obtain rfl : n2 = n + 1 := by have := hs2.1; rw [show (ranksL zs).length = zs.length by simp [ranksL]] at this; have := Hm.out; omega
    have hx2 := hx1.below hb2
    have hy2 := hy1.below hb2
    have hb3 := hb1.trans (hb2.mono hb1.size)
    clear Hrk hx1 hy1
    go_wp2_with fail
    go_loopw [10, 33] (fun a i wr => ∃ p k : Nat, p ≤ n + 1 ∧ i = .int .i64 (p : Int) ∧ a = .int .i64 (k : Int) ∧ k ≤ n ∧ Hid (p ≤ n → rowOf zs p ≠ 0 → k ≤ lcp (sfx bs (gi zs (rowOf zs p - 1))) (sfx bs (p : Int))) ∧
      Row (Value.int .i64) wr w2.heap.size 3 (commonPl bs zs p) ∧ Below w2.heap.size w2 wr) (fun _ i _ => n + 1 - (intOf i).toNat)
    case atStart => exact ⟨0, 0, by omega, rfl, rfl, by omega, fun _ _ => Nat.zero_le _, by rw [commonPl_zero H2.out H3.out, Hm.out]; exact Row.new w2 _ _, (Below.refl _ _).alloc (Nat.le_refl _) _⟩
    case round =>
      obtain ⟨p, k, hpn, rfl, rfl, hkn, HK, hrow, hbel⟩ := hrel
      obtain ⟨wo, rfl⟩ : ∃ wo : World, wo = wr := ⟨_, rfl⟩
      by_cases hlt : p < n + 1
      · have hs3 := hs2.below hbel
        have hx3 := hx2.below hbel
        have hy3 := hy2.below hbel
        obtain ⟨b2, o2, rfl, -, hcell2⟩ := hs3.get hlt
        have c1 := hcell2 p hlt
        rw [gi_ranksL H2.out (by have := Hn.out; omega)] at c1
        clear hcell2
        by_cases hr0 : rowOf zs p = 0
        · have d4 : (((rowOf zs p : Nat) : Int) == 0) = true := by simp [hr0]
          have hrow2 := hrow
          rw [commonPl_skip H2.out H3.out (by have := Hn.out; omega) hr0] at hrow2
          clear hr0
          go_wp2_with fail
          go_roundw
          case rel => exact ⟨p + 1, 0, by omega, by go_num, rfl, by omega, fun _ _ => Nat.zero_le _, hrow2, hbel⟩
          case measure => simp [intOf]; omega
        · have d4 : (((rowOf zs p : Nat) : Int) == 0) = false := by simp [hr0]
          have hrl : rowOf zs p < n + 1 := by have := row_lt H2.out H3.out (p := p) (by have := Hn.out; omega); have := Hm.out; omega
          have hr1 : 1 ≤ rowOf zs p := by omega
          obtain ⟨q0, q1⟩ := HZ.out (rowOf zs p - 1) (by omega)
          obtain ⟨q, hq⟩ := Int.eq_ofNat_of_zero_le q0
          have hqn : q ≤ n := by omega
          obtain ⟨b3, o3, rfl, -, hcell3⟩ := hy3.get hlt
          have c3 := hcell3 (rowOf zs p - 1) (by omega)
          rw [hq] at c3
          have e5 : ((rowOf zs p : Nat) : Int) - 1 = ((rowOf zs p - 1 : Nat) : Int) := by omega
          clear hcell3 q0 q1
          have hK := HK.out (by omega) hr0
          rw [hq] at hK
          have hrange := lcp_get (bs := bs) (p := q) (q := p) (n := k) (by have := Hn.out; omega) (by have := Hn.out; omega) (by simpa [sfx] using hK)
          have Hr := Lib.hid hrange; clear hrange hK HK
          have Hq := Lib.hid hq; clear hq
          have Hr0 := Lib.hid hr0; clear hr0
          obtain ⟨r, hr⟩ : ∃ r, r = rowOf zs p := ⟨_, rfl⟩
          have c3' : wo.cell? ⟨b3, o3 + (r - 1), none⟩ = some (.int .i64 (q : Int)) := by rw [hr]; exact c3
          have c1' : wo.cell? ⟨b2, o2 + p, none⟩ = some (.int .i64 (r : Int)) := by rw [hr]; exact c1
          have d4' : ((r : Int) == 0) = false := by rw [hr]; exact d4
          have r1 : 1 ≤ r := by omega
          have r2 : r < n + 1 := by omega
          have HR := Lib.hid hr
          clear hr c1 c3 d4 e5 hr1 hrl
          have d5 : decide ((p : Int) < (n : Int) + 1) = true := by simp; omega
          obtain ⟨mx, hmx⟩ : ∃ mx : Nat, mx = max p q := ⟨_, rfl⟩
          have e6 : max (p : Int) (q : Int) = (mx : Int) := by omega
          have m1 : p ≤ mx := by omega
          have m2 : q ≤ mx := by omega
          have m3 : mx ≤ n := by omega
          have Hmx : Hid (mx = p ∨ mx = q) := by show _ ∨ _; omega
          clear hmx
          have k1 : q + k ≤ n ∧ p + k ≤ n := by
            rcases Nat.eq_zero_or_pos k with h0 | h0
            · omega
            · have := Hr.out (k - 1) (by omega); have := Hn.out; omega
          obtain ⟨k1, k2⟩ := k1
          go_wp2_with fail
          go_loopw [10] (fun a wr => ∃ j : Nat, a = .int .i64 (j : Int) ∧ q + j ≤ n ∧ p + j ≤ n ∧ Hid (∀ i, i < j → q + i < bs.length ∧ p + i < bs.length ∧ gb bs (q + i) = gb bs (p + i)) ∧ Drawn wo wr) (fun a _ => n - (intOf a).toNat)
          case atStart => exact ⟨k, rfl, k1, k2, Hr, Drawn.refl _⟩
          case round =>
            clear k1 k2 Hr
            obtain ⟨j, rfl, j1, j2, HJ, hdr⟩ := hrel
            have hx4 := hx3.below (hdr.below _)
            have fin : (mx + j < n → gb bs (q + j) ≠ gb bs (p + j)) → lcp (bs.drop q) (bs.drop p) = j := fun h =>
              lcp_end bs q p j HJ.out (fun h1 h2 => h (by have := Hn.out; have := Hmx.out; omega))
            have Fin := Lib.hid fin; clear fin
            by_cases h1 : mx + j < n
            · have d6 : decide ((mx : Int) + (j : Int) < (n : Int)) = true := by simp; omega
              obtain ⟨b4, o4, rfl, -, hcell4⟩ := hx4.get h1
              have c5 := hcell4 (p + j) (by omega)
              have c6 := hcell4 (q + j) (by omega)
              clear hcell4
              by_cases he : gb bs (p + j) = gb bs (q + j)
              · have d7 : (gb bs (p + j) == gb bs (q + j)) = true := by simp [he]
                have He := Lib.hid he; clear he
                go_wp2_with fail
                go_quiet (fail)
                go_wp2_with fail
                go_roundw
                case rel => exact ⟨j + 1, by go_num, by omega, by omega, fun i hi => by
                  rcases Nat.lt_or_ge i j with h | h
                  · exact HJ.out i h
                  · obtain rfl : i = j := by omega
                    have := Hn.out
                    exact ⟨by omega, by omega, He.out.symm⟩, hdr.step _⟩
                case measure => simp [intOf]; omega
              · have d7 : (gb bs (p + j) == gb bs (q + j)) = false := by simp [he]
                have HF := Lib.hid (Fin.out (fun _ h => he h.symm))
                clear he
                go_wp2_with fail
                go_quiet (fail)
                clear c5 c6 d7 d6
                obtain ⟨W, hW⟩ : ∃ W : World, W = wr.drewN nq := ⟨_, rfl⟩
                have hdW : Drawn wo W := by rw [hW]; exact hdr.step nq
                rw [← hW]
                clear hW
                have hrowW := hrow.below (hdW.below (wo.heap.size)) hrow.lt
                have hbW := hbel.trans (hdW.below _)
                have hlen := commonPl_length bs zs p
                have f1 := hrowW.cell (j := r) 0 (by rw [hlen, Hm.out]; omega)
                have f2 := hrowW.frozen r
                have hrow2 := hrowW.set r (j : Int)
                have hcf : commonF bs zs r = (j : Int) := by
                  unfold commonF
                  have h0 := Hr0.out
                  have h1 := HR.out
                  rw [if_neg (by omega), h1, Hq.out, gi_row H2.out H3.out (by have := Hn.out; omega)]
                  simp only [sfx, Int.toNat_natCast]
                  rw [HF.out]
                have hnext := commonPl_next H2.out H3.out (p := p) (by have := Hn.out; omega)
                rw [← HR.out, hcf] at hnext
                rw [hnext] at hrow2
                have hkas : Hid (p + 1 ≤ n → rowOf zs (p + 1) ≠ 0 → j - 1 ≤ lcp (sfx bs (gi zs (rowOf zs (p + 1) - 1))) (sfx bs ((p + 1 : Nat) : Int))) := fun h1 h2 => by
                  have := kasai H2.out H3.out Hs.out (p := p) (by have := Hn.out; omega) Hr0.out h2
                  rw [Hq.out] at this
                  simp only [sfx, Int.toNat_natCast] at this HF ⊢
                  rw [HF.out] at this
                  omega
                have e7 : max (0 : Int) ((j : Int) - 1) = ((j - 1 : Nat) : Int) := by omega
                clear hcf hnext hlen
                go_wp2_with fail
                go_roundw
                case rel => exact ⟨p + 1, j - 1, by omega, by go_num, rfl, by omega, hkas, hrow2, hbW.setCell (Nat.le_refl _) _⟩
                case measure => simp [intOf]; omega
            · have d6 : decide ((mx : Int) + (j : Int) < (n : Int)) = false := by simp; omega
              have HF := Lib.hid (Fin.out (fun h => absurd h h1))
              go_wp2_with fail
              go_quiet (fail)
              clear d6
              obtain ⟨W, hW⟩ : ∃ W : World, W = wr.drewN nq := ⟨_, rfl⟩
              have hdW : Drawn wo W := by rw [hW]; exact hdr.step nq
              rw [← hW]
              clear hW
              have hrowW := hrow.below (hdW.below (wo.heap.size)) hrow.lt
              have hbW := hbel.trans (hdW.below _)
              have hlen := commonPl_length bs zs p
              have f1 := hrowW.cell (j := r) 0 (by rw [hlen, Hm.out]; omega)
              have f2 := hrowW.frozen r
              have hrow2 := hrowW.set r (j : Int)
              have hcf : commonF bs zs r = (j : Int) := by
                unfold commonF
                have h0 := Hr0.out
                have h1 := HR.out
                rw [if_neg (by omega), h1, Hq.out, gi_row H2.out H3.out (by have := Hn.out; omega)]
                simp only [sfx, Int.toNat_natCast]
                rw [HF.out]
              have hnext := commonPl_next H2.out H3.out (p := p) (by have := Hn.out; omega)
              rw [← HR.out, hcf] at hnext
              rw [hnext] at hrow2
              have hkas : Hid (p + 1 ≤ n → rowOf zs (p + 1) ≠ 0 → j - 1 ≤ lcp (sfx bs (gi zs (rowOf zs (p + 1) - 1))) (sfx bs ((p + 1 : Nat) : Int))) := fun h1 h2 => by
                have := kasai H2.out H3.out Hs.out (p := p) (by have := Hn.out; omega) Hr0.out h2
                rw [Hq.out] at this
                simp only [sfx, Int.toNat_natCast] at this HF ⊢
                rw [HF.out] at this
                omega
              have e7 : max (0 : Int) ((j : Int) - 1) = ((j - 1 : Nat) : Int) := by omega
              clear hcf hnext hlen
              go_wp2_with fail
              go_roundw
              case rel => exact ⟨p + 1, j - 1, by omega, by go_num, rfl, by omega, hkas, hrow2, hbW.setCell (Nat.le_refl _) _⟩
              case measure => simp [intOf]; omega
      · obtain rfl : p = n + 1 := by omega
        go_wp2_with fail
        go_ret2
        refine RetInts.mk Hp.out.symm ?_ (hb3.trans (hbel.mono hb3.size))
        unfold commonOut
        rw [if_pos Hp.out]
        rw [commonPl_done H2.out H3.out (by have := Hn.out; omega)] at hrow
        exact hrow.ints (by rw [commonL, commonTo_length, Hm.out]) (Nat.le_refl _)
  · have d2 : (checkErr bs zs != 0) = true := by simp [hp]
    have hfin : Hid (commonOut bs zs = []) := by show _ = _; unfold commonOut; rw [if_neg hp]
    clear hp
    go_enter Try.func18, Try.ntmps18
    go_wp2_with fail
    refine Hcal.out.mono ?_
    rintro e w1 ⟨rfl, hb1⟩
    go_wp2_with fail
    go_ret2
    refine RetInts.mk rfl ?_ hb1
    rw [hfin.out]
    exact Ints.nil _ _
end Go.Proofs.Ytkndcbnajkiceaa
