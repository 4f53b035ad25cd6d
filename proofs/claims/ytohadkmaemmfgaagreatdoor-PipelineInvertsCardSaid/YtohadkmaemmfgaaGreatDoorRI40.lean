/- Eu Ev. -/
import Derived.Test.YtohadkmaemmfgaaGreatDoorRI39
set_option maxRecDepth 100000
set_option maxHeartbeats 4000000
namespace Go.Proofs.YtohadkmaemmfgaaGreatDoor.Dic
open Go.RowKit Go.Proofs
set_option linter.unusedVariables false
set_option linter.unusedSimpArgs false
def lmt (o : List UInt8) (z : List UInt8 × Nat) : List UInt8 × Nat := if 65536 < o.length then ([], 5) else z
theorem lmt_long {o : List UInt8} {z : List UInt8 × Nat} (h : 65536 < o.length) : lmt o z = ([], 5) := if_pos h
theorem lmt_short {o : List UInt8} {z : List UInt8 × Nat} (h : o.length ≤ 65536) : lmt o z = z := if_neg (Nat.not_lt.2 h)
def uncodeQ (ws : List (List UInt8)) : List UInt8 → List UInt8 → List UInt8 × Nat
  | [], out => (out, 0)
  | [x], out => if x.toNat < 128 then lmt (out ++ [x]) (out ++ [x], 0) else if x.toNat = 255 then ([], 9) else if ws.length ≤ x.toNat - 128 then ([], 7) else lmt (out ++ gs ws (x.toNat - 128)) (out ++ gs ws (x.toNat - 128), 0)
  | x :: y :: r, out => if x.toNat < 128 then lmt (out ++ [x]) (uncodeQ ws (y :: r) (out ++ [x])) else if x.toNat = 255 then (if y.toNat < 128 then ([], 3) else lmt (out ++ [y]) (uncodeQ ws r (out ++ [y]))) else if ws.length ≤ x.toNat - 128 then ([], 7) else lmt (out ++ gs ws (x.toNat - 128)) (uncodeQ ws (y :: r) (out ++ gs ws (x.toNat - 128)))
section
variable {ws : List (List UInt8)} {x : UInt8}
theorem uncodeQ_low (h : x.toNat < 128) : ∀ (r out : List UInt8), uncodeQ ws (x :: r) out = lmt (out ++ [x]) (uncodeQ ws r (out ++ [x]))
  | [], out => by simp [uncodeQ, h]
  | y :: r, out => by simp [uncodeQ, h]
theorem uncodeQ_esc (h : x.toNat = 255) : ∀ (r out : List UInt8), uncodeQ ws (x :: r) out = match r with | [] => ([], 9) | y :: r' => if y.toNat < 128 then ([], 3) else lmt (out ++ [y]) (uncodeQ ws r' (out ++ [y]))
  | [], out => by simp [uncodeQ, h]
  | y :: r, out => by simp [uncodeQ, h]
theorem uncodeQ_none (h : 128 ≤ x.toNat) (h2 : x.toNat ≠ 255) (h3 : ws.length ≤ x.toNat - 128) : ∀ (r out : List UInt8), uncodeQ ws (x :: r) out = ([], 7)
  | [], out => by simp [uncodeQ, h2, h3, Nat.not_lt.2 h]
  | y :: r, out => by simp [uncodeQ, h2, h3, Nat.not_lt.2 h]
theorem uncodeQ_word (h : 128 ≤ x.toNat) (h2 : x.toNat ≠ 255) (h3 : x.toNat - 128 < ws.length) : ∀ (r out : List UInt8), uncodeQ ws (x :: r) out = lmt (out ++ gs ws (x.toNat - 128)) (uncodeQ ws r (out ++ gs ws (x.toNat - 128)))
  | [], out => by simp [uncodeQ, h2, Nat.not_le.2 h3, Nat.not_lt.2 h]
  | y :: r, out => by simp [uncodeQ, h2, Nat.not_le.2 h3, Nat.not_lt.2 h]
end
theorem uncodeQ_eq {ws : List (List UInt8)} : ∀ (n : Nat) (r out : List UInt8), r.length ≤ n → (uncodeL ws r out).2 = 0 → out.length ≤ (uncodeL ws r out).1.length ∧ ((uncodeL ws r out).1.length ≤ 65536 → uncodeQ ws r out = uncodeL ws r out)
  | n, [], out, _, _ => ⟨Nat.le_refl _, fun _ => rfl⟩
  | 0, x :: r, out, hn, _ => absurd hn (by simp)
  | n + 1, x :: r, out, hn, h => by
    rw [List.length_cons] at hn
    have key : ∀ (r2 o2 : List UInt8), r2.length ≤ n → out.length ≤ o2.length → uncodeL ws (x :: r) out = uncodeL ws r2 o2 → uncodeQ ws (x :: r) out = lmt o2 (uncodeQ ws r2 o2) → out.length ≤ (uncodeL ws (x :: r) out).1.length ∧ ((uncodeL ws (x :: r) out).1.length ≤ 65536 → uncodeQ ws (x :: r) out = uncodeL ws (x :: r) out) := fun r2 o2 hr ho h1 h2 => by
      rw [h1] at h ⊢
      obtain ⟨a, b⟩ := uncodeQ_eq n r2 o2 hr h
      exact ⟨Nat.le_trans ho a, fun hl => by rw [h2, lmt_short (Nat.le_trans a hl), b hl]⟩
    by_cases h1 : x.toNat < 128
    · exact key r (out ++ [x]) (by omega) (by simp) (uncodeL_low h1 r out) (uncodeQ_low h1 r out)
    · by_cases h2 : x.toNat = 255
      · match r, hn, h, key with
        | [], _, h, _ => rw [uncodeL_esc h2] at h; cases h
        | y :: r, hn, h, key =>
          by_cases h3 : y.toNat < 128
          · rw [uncodeL_esc h2] at h
            simp only [if_pos h3] at h
            cases h
          · refine key r (out ++ [y]) (by simp at hn; omega) (by simp) ?_ ?_
            · rw [uncodeL_esc h2]; exact if_neg h3
            · rw [uncodeQ_esc h2]; exact if_neg h3
      · by_cases h3 : ws.length ≤ x.toNat - 128
        · rw [uncodeL_none (by omega) h2 h3] at h; cases h
        · exact key r (out ++ gs ws (x.toNat - 128)) (by omega) (by simp) (uncodeL_word (by omega) h2 (by omega) r out) (uncodeQ_word (by omega) h2 (by omega) r out)
theorem lmt_len {o : List UInt8} {z : List UInt8 × Nat} (h : o.length ≤ 65536 → z.1.length ≤ 65536) : (lmt o z).1.length ≤ 65536 := by
  unfold lmt
  split
  · exact Nat.zero_le _
  · exact h (by omega)
theorem uncodeQ_len {ws : List (List UInt8)} : ∀ (n : Nat) (r out : List UInt8), r.length ≤ n → out.length ≤ 65536 → (uncodeQ ws r out).1.length ≤ 65536
  | n, [], out, _, h => h
  | 0, x :: r, out, hn, _ => absurd hn (by simp)
  | n + 1, x :: r, out, hn, _ => by
    rw [List.length_cons] at hn
    by_cases h1 : x.toNat < 128
    · rw [uncodeQ_low h1]; exact lmt_len (uncodeQ_len n r _ (by omega))
    · by_cases h2 : x.toNat = 255
      · rw [uncodeQ_esc h2]
        match r, hn with
        | [], _ => exact Nat.zero_le _
        | y :: r, hn =>
          dsimp only
          split
          · exact Nat.zero_le _
          · exact lmt_len (uncodeQ_len n r _ (by simp at hn; omega))
      · by_cases h3 : ws.length ≤ x.toNat - 128
        · rw [uncodeQ_none (by omega) h2 h3]; exact Nat.zero_le _
        · rw [uncodeQ_word (by omega) h2 (by omega)]; exact lmt_len (uncodeQ_len n r _ (by omega))
def uncRQ (ss : List (List UInt8)) (bs : List UInt8) : List UInt8 × Nat := if checkL ss = 0 then (if 65536 < bs.length then ([], 5) else uncodeQ ss bs []) else ([], checkL ss)
theorem uncodeQ_any (A A' : Option Addr) (c c' n m : Nat) (ss : List (List UInt8)) (bs : List UInt8) (w : World) (hx : Strs w A n c ss) (hy : Bytes w A' m c' bs) (hn : n ≤ 1000000000) (hl : ∀ s ∈ ss, s.length ≤ 1000000000) (hm : m ≤ 1000000000) :
    Calls Tryz.prog 84 #[.slice A n c, .slice A' m c'] w (RetBytes w (uncRQ ss bs).1 ((uncRQ ss bs).2 : Nat)) := by
  have Hl := Lib.hid hy.1
  have Hn := Lib.hid hx.1
  have hcal := checkP_any A c n ss w hx hn hl
  by_cases hc : checkL ss = 0
  · rw [hc] at hcal
    have Hcal := Lib.hid hcal; clear hcal
    obtain ⟨hs64, hsw, hnd⟩ := checkL_zero.1 hc
    by_cases hm6 : 65536 < m
    · have hR : Hid (uncRQ ss bs = ([], 5)) := by show _ = _; unfold uncRQ; rw [if_pos hc, if_pos (by rw [Hl.out]; exact hm6)]
      have d65 : decide ((65536 : Int) < (m : Int)) = true := by simp; omega
      have d65' : decide (65536 < m) = true := by simp; omega
      clear hs64 hsw hnd hc hm6 hm hl
      go_enter Tryz.func84, Tryz.ntmps84
      go_wp2_with fail
      refine Hcal.out.mono ?_
      rintro e w1 ⟨rfl, hw1⟩
      obtain rfl : w = w1 := hw1.symm
      go_wp2_with fail
      go_ret2
      rw [hR.out]
      exact RetBytes.err rfl (Below.refl _ _)
    have hm : m ≤ 65536 := by omega
    clear hm6
    have hR : Hid (uncRQ ss bs = uncodeQ ss bs []) := by show _ = _; unfold uncRQ; rw [if_pos hc, if_neg (by rw [Hl.out]; omega)]
    have HS := Lib.hid hsw; clear hsw hc hnd
    have HL := Lib.hid hl; clear hl
    rw [Hn.out] at hs64
    have d65 : decide ((65536 : Int) < (m : Int)) = false := by simp; omega
    go_enter Tryz.func84, Tryz.ntmps84
    go_wp2_with fail
    refine Hcal.out.mono ?_
    rintro e w1 ⟨rfl, hw1⟩
    obtain rfl : w = w1 := hw1.symm
    clear Hcal
    go_wp2_with fail
    go_loopw [1, 7, 8] (fun v o _ wr => ∃ (Ab : Option Addr) (nb cb : Nat) (r : List UInt8) (A2 : Option Addr) (n2 c2 : Nat) (out : List UInt8), v = .slice Ab nb cb ∧ Bytes w Ab nb cb r ∧ o = .slice A2 n2 c2 ∧ nb ≤ 65536 ∧ n2 ≤ 65536 ∧ Own encB wr w.heap.size 5 A2 n2 c2 out ∧ Hid (uncodeQ ss bs [] = uncodeQ ss r out) ∧ Below w.heap.size w wr) (fun v _ _ _ => vLen v)
    case atStart => exact ⟨A', m, c', bs, none, 0, 0, [], rfl, hy, rfl, hm, by omega, Own.nil _ _ _ _, by simp [Hid], Below.refl _ _⟩
    case round =>
      obtain ⟨Ab, nb, cb, r, A2, n2, c2, out, rfl, hr, rfl, hnb, hn2, hown, HU, hbel⟩ := hrel
      have hol := hown.length
      by_cases hlt : 0 < nb
      · have d0 : decide ((0 : Int) < (nb : Int)) = true := by simp; omega
        have d0' : decide (0 < nb) = true := by simp; omega
        obtain ⟨y, r', rfl, hl'⟩ := cons_of hr hlt
        have hU := HU.out
        have hxr := hx.below hbel
        have hcap := hr.2.1
        obtain ⟨A5, r5, v5⟩ := hr.cut_l tB eB sB (1 : Int) (by omega) (by omega)
        rw [show (1 : Int).toNat = 1 from rfl] at r5 v5
        rw [List.drop_one, List.tail_cons] at v5
        have hrr := hr.below hbel
        obtain ⟨bb, off, rfl, hbk, hcell⟩ := hrr.get hlt
        have c1 := hcell 0 hlt
        clear hcell
        have hgb : gb (y :: r') 0 = (y.toNat : Int) := rfl
        have hy256 := y.toNat_lt
        rw [hgb, Nat.add_zero] at c1
        clear hgb
        have Hl' := Lib.hid hl'; clear hl'
        have Hey : Hid (encB y = .int .u8 (y.toNat : Int)) := rfl
        have m1 : Hid (n2 + 1 ≤ maxLen ∧ (n2 + 1) * 1 ≤ 140737488355328) := ⟨by simp [maxLen]; omega, by omega⟩
        by_cases h1 : y.toNat < 128
        · rw [uncodeQ_low h1] at hU
          obtain ⟨X, hX⟩ : ∃ X, X = y.toNat := ⟨_, rfl⟩
          rw [← hX] at c1 h1 hy256 Hey
          clear hX
          have d2 : decide ((X : Int) < 128) = true := by simp; omega
          have d2' : decide (X < 128) = true := by simp; omega
          by_cases hlm : 65536 < n2 + 1
          · have HU1 : Hid (uncodeQ ss bs [] = ([], 5)) := by show _ = _; rw [hU, lmt_long (by rw [List.length_append, hol]; exact hlm)]
            clear hU
            have d3 : decide ((65536 : Int) < ((n2 + 1 : Nat) : Int)) = true := by simp; omega
            have d3' : decide ((65536 : Int) < (n2 : Int) + 1) = true := by simp; omega
            clear hol hnb hn2 hlm
            go_wp2_with (at_builtin; refine wpList_pushv (enc := encB) rfl (.tmp 35) (.tmp 37) rfl uB infoB encB_one rfl rfl hown hbel.size y _ Hey.out rfl m1.out.1 m1.out.2 ?_; intro A6 c6 W6 ho6 hb6)
            go_ret2
            rw [hR.out, HU1.out]
            exact RetBytes.err rfl (hbel.trans hb6)
          · have HU1 : Hid (uncodeQ ss bs [] = uncodeQ ss r' (out ++ [y])) := by show _ = _; rw [hU, lmt_short (by rw [List.length_append, hol]; exact Nat.not_lt.1 hlm)]
            clear hU
            have d3 : decide ((65536 : Int) < ((n2 + 1 : Nat) : Int)) = false := by simp; omega
            have d3' : decide ((65536 : Int) < (n2 : Int) + 1) = false := by simp; omega
            go_wp2_with (at_builtin; refine wpList_pushv (enc := encB) rfl (.tmp 35) (.tmp 37) rfl uB infoB encB_one rfl rfl hown hbel.size y _ Hey.out rfl m1.out.1 m1.out.2 ?_; intro A6 c6 W6 ho6 hb6)
            go_roundw
            case rel => exact ⟨A5, nb - 1, cb - 1, r', A6, n2 + 1, c6, _, rfl, v5, rfl, by omega, by omega, ho6, HU1, hbel.trans hb6⟩
            case measure => simp [vLen]; omega
        · by_cases h255 : y.toNat = 255
          · rw [uncodeQ_esc h255] at hU
            have HU1 := Lib.hid hU; clear hU
            have hX1 : 255 ≤ y.toNat := by omega
            clear h255 h1
            obtain ⟨X, hX⟩ : ∃ X, X = y.toNat := ⟨_, rfl⟩
            rw [← hX] at c1 hy256 Hey hX1
            clear hX
            have d2 : decide ((X : Int) < 128) = false := by simp; omega
            have d2' : decide (X < 128) = false := by simp; omega
            have d3 : ((X : Int) == 255) = true := by simp; omega
            by_cases hk1 : 1 < nb
            · have d4 : (((nb - 1 : Nat) : Int) == 0) = false := by simp; omega
              have d4' : ((nb : Int) - 1 == 0) = false := by simp; omega
              have d7 : decide ((0 : Int) < ((nb - 1 : Nat) : Int)) = true := by simp; omega
              have d7' : (0 : Int) < ((nb - 1 : Nat) : Int) := by omega
              have d7'' : 0 < nb - 1 := by omega
              obtain ⟨z, r'', hzr, hl''⟩ := cons_of v5 (by omega)
              subst hzr
              have HU2 := HU1.out
              obtain ⟨A7, r7, v7⟩ := v5.cut_l tB eB sB (1 : Int) (by omega) (by omega)
              rw [show (1 : Int).toNat = 1 from rfl] at r7 v7
              rw [List.drop_one, List.tail_cons] at v7
              obtain ⟨b3, off3, rfl, hb3, hc3⟩ := (v5.below hbel).get (k := 0) (by omega)
              have c3 := hc3 0 (by omega)
              have hgb : gb (z :: r'') 0 = (z.toNat : Int) := rfl
              have hz256 := z.toNat_lt
              rw [hgb, Nat.add_zero] at c3
              clear hgb hc3 HU1
              have Hez : Hid (encB z = .int .u8 (z.toNat : Int)) := rfl
              have Hl'' := Lib.hid hl''; clear hl''
              simp only at HU2
              by_cases hz : z.toNat < 128
              · rw [if_pos hz] at HU2
                have HU3 := Lib.hid HU2; clear HU2
                obtain ⟨Z, hZ⟩ : ∃ Z, Z = z.toNat := ⟨_, rfl⟩
                rw [← hZ] at c3 hz256 Hez hz
                clear hZ
                have d5 : decide ((Z : Int) < 128) = true := by simp; omega
                have d5' : decide (Z < 128) = true := by simp; omega
                go_wp2_with fail
                go_ret2
                rw [hR.out, HU3.out]
                exact RetBytes.err rfl hbel
              · rw [if_neg hz] at HU2
                obtain ⟨Z, hZ⟩ : ∃ Z, Z = z.toNat := ⟨_, rfl⟩
                rw [← hZ] at c3 hz256 Hez hz
                clear hZ
                have d5 : decide ((Z : Int) < 128) = false := by simp; omega
                have d5' : decide (Z < 128) = false := by simp; omega
                by_cases hlm : 65536 < n2 + 1
                · have HU3 : Hid (uncodeQ ss bs [] = ([], 5)) := by show _ = _; rw [HU2, lmt_long (by rw [List.length_append, hol]; exact hlm)]
                  clear HU2
                  have d6 : decide ((65536 : Int) < ((n2 + 1 : Nat) : Int)) = true := by simp; omega
                  have d6' : decide ((65536 : Int) < (n2 : Int) + 1) = true := by simp; omega
                  clear hol hnb hn2 hlm
                  go_wp2_with fail
                  go_region_law (first
                    | (refine step_pushv (enc := encB) (bytes := 1) (zero := 0) rfl (.tmp 59) (.tmp 63) rfl uB infoB encB_one rfl rfl (w := wr.drew) hown.drew hbel.size z _ Hez.out rfl m1.out.1 m1.out.2 ?_; intro A6 c6 W6 ho6 hb6))
                  all_goals
                    go_wp2_with fail
                    go_ret2
                    rw [hR.out, HU3.out]
                    exact RetBytes.err rfl (hbel.trans (((Drawn.drewN wr 1).below _).trans hb6))
                · have HU3 : Hid (uncodeQ ss bs [] = uncodeQ ss r'' (out ++ [z])) := by show _ = _; rw [HU2, lmt_short (by rw [List.length_append, hol]; exact Nat.not_lt.1 hlm)]
                  clear HU2
                  have d6 : decide ((65536 : Int) < ((n2 + 1 : Nat) : Int)) = false := by simp; omega
                  have d6' : decide ((65536 : Int) < (n2 : Int) + 1) = false := by simp; omega
                  go_wp2_with fail
                  go_region_law (first
                    | (refine step_pushv (enc := encB) (bytes := 1) (zero := 0) rfl (.tmp 59) (.tmp 63) rfl uB infoB encB_one rfl rfl (w := wr.drew) hown.drew hbel.size z _ Hez.out rfl m1.out.1 m1.out.2 ?_; intro A6 c6 W6 ho6 hb6))
                  all_goals
                    go_wp2_with fail
                    go_roundw
                    case rel => exact ⟨A7, nb - 1 - 1, cb - 1 - 1, r'', A6, n2 + 1, c6, _, rfl, v7, rfl, by omega, by omega, ho6, HU3, hbel.trans (((Drawn.drewN wr 1).below _).trans hb6)⟩
                    case measure => simp [vLen]; omega
            · have d4 : (((nb - 1 : Nat) : Int) == 0) = true := by simp; omega
              have d4' : ((nb : Int) - 1 == 0) = true := by simp; omega
              have HU2 : Hid (uncodeQ ss bs [] = ([], 9)) := by
                show _ = _
                have : r' = [] := List.length_eq_zero_iff.1 (by rw [Hl'.out]; omega)
                rw [HU1.out, this]
              clear HU1
              go_wp2_with fail
              go_ret2
              rw [hR.out, HU2.out]
              exact RetBytes.err rfl hbel
          · have d3 : ((y.toNat : Int) == 255) = false := by simp; omega
            by_cases hw : y.toNat - 128 < n
            · rw [uncodeQ_word (by omega) h255 (by rw [Hn.out]; exact hw)] at hU
              have hwl := word_len HS.out (j := y.toNat - 128) (by rw [Hn.out]; exact hw)
              obtain ⟨b4, off4, rfl, hb4, hc4⟩ := hxr.get hw
              have c4 := hc4 (y.toNat - 128) hw
              clear hc4
              obtain ⟨X, hX⟩ : ∃ X, X = y.toNat := ⟨_, rfl⟩
              rw [← hX] at c1 c4 hy256 Hey h255 h1 hw hwl hU d3
              clear hX
              have d2 : decide ((X : Int) < 128) = false := by simp; omega
              have d2' : decide (X < 128) = false := by simp; omega
              have d4 : decide ((n : Int) ≤ (X : Int) - 128) = false := by simp; omega
              have b8 : (X : Int) - 128 < (n : Int) := by omega
              have b0 : 0 ≤ (X : Int) - 128 := by omega
              have m2 : Hid (n2 + (gs ss (X - 128)).length ≤ maxLen ∧ n2 + (gs ss (X - 128)).length ≤ 140737488355328) := ⟨by simp [maxLen]; omega, by omega⟩
              have h1' : 128 ≤ X := by omega
              clear h1 h255
              by_cases hlm : 65536 < n2 + (gs ss (X - 128)).length
              · have HU1 : Hid (uncodeQ ss bs [] = ([], 5)) := by show _ = _; rw [hU, lmt_long (by rw [List.length_append, hol]; exact hlm)]
                clear hU
                have d6 : decide ((65536 : Int) < ((n2 + (gs ss (X - 128)).length : Nat) : Int)) = true := by simp; omega
                have d6' : decide ((65536 : Int) < (n2 : Int) + ((gs ss (X - 128)).length : Int)) = true := by simp; omega
                clear hol hnb hn2 hlm
                go_wp2_with (at_builtin; refine wpList_apps rfl (.tmp 25) (.tmp 30) rfl uB uS infoB rfl hown hbel.size (gs ss (X - 128)) rfl m2.out.1 m2.out.2 ?_; intro A6 c6 W6 ho6 hb6)
                go_ret2
                rw [hR.out, HU1.out]
                exact RetBytes.err rfl (hbel.trans hb6)
              · have HU1 : Hid (uncodeQ ss bs [] = uncodeQ ss r' (out ++ gs ss (X - 128))) := by show _ = _; rw [hU, lmt_short (by rw [List.length_append, hol]; exact Nat.not_lt.1 hlm)]
                clear hU
                have d6 : decide ((65536 : Int) < ((n2 + (gs ss (X - 128)).length : Nat) : Int)) = false := by simp; omega
                have d6' : decide ((65536 : Int) < (n2 : Int) + ((gs ss (X - 128)).length : Int)) = false := by simp; omega
                go_wp2_with (at_builtin; refine wpList_apps rfl (.tmp 25) (.tmp 30) rfl uB uS infoB rfl hown hbel.size (gs ss (X - 128)) rfl m2.out.1 m2.out.2 ?_; intro A6 c6 W6 ho6 hb6)
                go_roundw
                case rel => exact ⟨A5, nb - 1, cb - 1, r', A6, n2 + (gs ss (X - 128)).length, c6, _, rfl, v5, rfl, by omega, by omega, ho6, HU1, hbel.trans hb6⟩
                case measure => simp [vLen]; omega
            · rw [uncodeQ_none (by omega) h255 (by rw [Hn.out]; omega)] at hU
              have HU1 := Lib.hid hU; clear hU
              obtain ⟨X, hX⟩ : ∃ X, X = y.toNat := ⟨_, rfl⟩
              rw [← hX] at c1 hy256 Hey h255 h1 hw d3
              clear hX
              have d2 : decide ((X : Int) < 128) = false := by simp; omega
              have d2' : decide (X < 128) = false := by simp; omega
              have d4 : decide ((n : Int) ≤ (X : Int) - 128) = true := by simp; omega
              have h1' : 128 ≤ X := by omega
              go_wp2_with fail
              go_ret2
              rw [hR.out, HU1.out]
              exact RetBytes.err rfl hbel
      · have HU2 : Hid (uncodeQ ss bs [] = (out, 0)) := by
          show _ = _
          have : r = [] := List.length_eq_zero_iff.1 (by rw [hr.1]; omega)
          rw [HU.out, this]
          rfl
        have d0 : decide ((0 : Int) < (nb : Int)) = false := by simp; omega
        have d0' : decide (0 < nb) = false := by simp; omega
        go_wp2_with fail
        go_ret2
        rw [hR.out, HU2.out]
        exact RetBytes.mk rfl hown.bytesBDic hbel
  · rw [show ((checkL ss : Nat) : Int) = _ from rfl] at hcal
    have Hcal := Lib.hid hcal; clear hcal
    have hR : Hid ((uncRQ ss bs).1 = [] ∧ (uncRQ ss bs).2 = checkL ss) := by show _ ∧ _; unfold uncRQ; rw [if_neg hc]; exact ⟨rfl, rfl⟩
    have d0 : (((checkL ss : Nat) : Int) != 0) = true := by simp; exact hc
    clear hc
    go_enter Tryz.func84, Tryz.ntmps84
    go_wp2_with fail
    refine Hcal.out.mono ?_
    rintro e w1 ⟨rfl, hw1⟩
    obtain rfl : w = w1 := hw1.symm
    go_wp2_with fail
    go_ret2
    rw [hR.out.1, hR.out.2]
    exact RetBytes.err rfl (Below.refl _ _)
def inverseQ (src : List UInt8) : List UInt8 × Nat :=
  if 65536 < src.length then ([], 5)
  else if (intL src).2.2 ≠ 0 then ([], (intL src).2.2)
  else if 64 < (intL src).1 then ([], 6)
  else if (readL (intL src).1 (intL src).2.1 []).2.2 ≠ 0 then ([], (readL (intL src).1 (intL src).2.1 []).2.2)
  else uncRQ (readL (intL src).1 (intL src).2.1 []).1 (readL (intL src).1 (intL src).2.1 []).2.1
theorem inverseQ_any (A : Option Addr) (m c : Nat) (src : List UInt8) (w : World) (hx : Bytes w A m c src) (hm : m ≤ 1000000) :
    Calls Tryz.prog 36 #[.slice A m c] w (RetBytes w (inverseQ src).1 ((inverseQ src).2 : Nat)) := by
  have Hl := Lib.hid hx.1
  by_cases hm6 : 65536 < m
  · have hR : Hid (inverseQ src = ([], 5)) := by show _ = _; unfold inverseQ; rw [if_pos (by rw [Hl.out]; exact hm6)]
    have d65 : decide ((65536 : Int) < (m : Int)) = true := by simp; omega
    have d65' : decide (65536 < m) = true := by simp; omega
    clear hm6 hm hx
    go_enter Tryz.func36, Tryz.ntmps36
    go_wp2_with fail
    go_ret2
    rw [hR.out]
    exact RetBytes.err rfl (Below.refl _ _)
  have h1 := Lib.hid (intP_any A m c src w hx (by omega))
  have hlen := intL_len src
  rw [Hl.out] at hlen
  have hval := intL_val src
  have e0 : Hid (inverseQ src = if (intL src).2.2 ≠ 0 then ([], (intL src).2.2) else if 64 < (intL src).1 then ([], 6) else if (readL (intL src).1 (intL src).2.1 []).2.2 ≠ 0 then ([], (readL (intL src).1 (intL src).2.1 []).2.2) else uncRQ (readL (intL src).1 (intL src).2.1 []).1 (readL (intL src).1 (intL src).2.1 []).2.1) := by show _ = _; unfold inverseQ; rw [Hl.out, if_neg hm6]
  have hee := intL_errv src
  obtain ⟨x, hxx⟩ : ∃ x, x = intL src := ⟨_, rfl⟩
  rw [← hxx] at h1 hlen hval e0 hee
  clear hxx
  obtain ⟨n, r0, k⟩ := x
  simp only at hlen hval e0 hee
  have d65 : decide ((65536 : Int) < (m : Int)) = false := by simp; omega
  have d65' : decide (65536 < m) = false := by simp; omega
  clear hm6
  by_cases hk : k = 0
  · subst hk
    rw [if_neg (by simp)] at e0
    clear hee
    by_cases hbig : 64 < n
    · rw [if_pos hbig] at e0
      have d1 : decide ((64 : Int) < (n : Int)) = true := by simp; omega
      have d1' : decide (64 < n) = true := by simp; omega
      go_enter Tryz.func36, Tryz.ntmps36
      go_wp2_with fail
      refine h1.out.mono ?_
      rintro e w1 ⟨A1, m1, c1, rfl, hs1, hb1⟩
      go_wp2_with fail
      go_ret2
      rw [e0.out]
      exact RetBytes.err rfl hb1
    · rw [if_neg hbig] at e0
      have d1 : decide ((64 : Int) < (n : Int)) = false := by simp; omega
      have d1' : decide (64 < n) = false := by simp; omega
      go_enter Tryz.func36, Tryz.ntmps36
      go_wp2_with fail
      refine h1.out.mono ?_
      rintro e w1 ⟨A1, m1, c1, rfl, hs1, hb1⟩
      have hm1 : m1 ≤ m := by rw [← hs1.length]; exact hlen
      clear h1
      go_wp2_with fail
      go_loopw [0, 6, 7, 8, 9, 25] (fun vb vo _ _ _ vi wr => ∃ (k : Nat) (Ab : Option Addr) (nb cb : Nat) (r : List UInt8) (Bb : Nat) (A2 : Option Addr) (c2 : Nat) (ws : List (List UInt8)), k ≤ n ∧ vi = .int .i64 (k : Int) ∧ vb = .slice Ab nb cb ∧ nb ≤ m ∧ Own encB wr Bb 5 Ab nb cb r ∧ vo = .slice A2 k c2 ∧ Own encS wr w1.heap.size 9 A2 k c2 ws ∧ Hid (∀ s ∈ ws, s.length ≤ 65536) ∧ Hid (readL n r0 [] = readL (n - k) r ws) ∧ Below w1.heap.size w1 wr) (fun _ _ _ _ _ vi _ => n - (intOf vi).toNat)
      case atStart => exact ⟨0, A1, m1, c1, r0, w.heap.size, none, 0, [], Nat.zero_le _, rfl, rfl, hm1, hs1, rfl, Own.nil _ _ _ _, (fun s hs => by cases hs), rfl, Below.refl _ _⟩
      case round =>
        obtain ⟨k, Ab, nb, cb, r, Bb, A2, c2, ws, hk, rfl, rfl, hnb, hob, rfl, how, HW, HR, hbel⟩ := hrel
        by_cases hlt : k < n
        · have dk : decide ((k : Int) < (n : Int)) = true := by simp; omega
          have dk' : decide (k < n) = true := by simp; omega
          have ht := Lib.hid (textP_any Ab nb cb r wr hob.bytesBDic (by omega))
          have hsel : readL (n - k) r ws = if (textL r).2.2 ≠ 0 then ([], [], (textL r).2.2) else readL (n - (k + 1)) (textL r).2.1 (ws ++ [(textL r).1]) := by
            rw [show n - k = (n - (k + 1)) + 1 by omega, readL]
          obtain ⟨htl1, htl2⟩ := textL_len r
          have hlr := Lib.hid hob.length
          rw [hlr.out] at htl1
          obtain ⟨y, hyy⟩ : ∃ y, y = textL r := ⟨_, rfl⟩
          rw [← hyy] at ht hsel htl1 htl2
          clear hyy
          obtain ⟨s, r2, k2⟩ := y
          simp only at hsel htl1 htl2
          by_cases hk2 : k2 = 0
          · subst hk2
            rw [if_neg (by simp)] at hsel
            have HR2 : Hid (readL n r0 [] = readL (n - (k + 1)) r2 (ws ++ [s])) := by show _ = _; rw [HR.out, hsel]
            clear hsel
            have m1' : Hid (k + 1 ≤ maxLen ∧ (k + 1) * 16 ≤ 140737488355328) := ⟨by simp [maxLen]; omega, by omega⟩
            have hgl := Lib.hid (own_block_lt how)
            go_wp2_with fail
            refine ht.out.mono ?_
            rintro e w2 ⟨A3, m3, c3, rfl, hs3, hb3⟩
            have how3 := how.below hb3
            have hB3 : Hid (w1.heap.size ≤ w2.heap.size) := Nat.le_trans hbel.size hb3.size
            have hl3 : Hid (m3 ≤ nb) := by show _ ≤ _; rw [← hs3.length]; exact htl1
            go_wp2_with (at_builtin; refine wpList_pushg (enc := encS) rfl (.tmp 36) (.tmp 38) rfl uSS infoS encS_one rfl rfl how3 hB3.out s rfl m1'.out.1 m1'.out.2 ?_; intro A6 c6 W6 ho6 hb6 hg6)
            have hs6 := hs3.past (N := 0) hg6 (fun g hg => hgl.out g hg)
            go_roundw
            case rel => exact ⟨k + 1, A3, m3, c3, r2, wr.heap.size, A6, c6, ws ++ [s], by omega, by go_num, rfl, by have := hl3.out; omega, hs6, rfl, ho6, (short_snoc HW.out htl2), HR2, hbel.trans ((hb3.mono hbel.size).trans hb6)⟩
            case measure => simp [intOf]; omega
          · rw [if_pos hk2] at hsel
            have hfin : Hid (inverseQ src = ([], k2)) := by
              show _ = _
              rw [e0.out, if_pos (by rw [HR.out, hsel]; exact hk2), HR.out, hsel]
            have d2 : ((k2 : Int) != 0) = true := by simp; omega
            clear hsel hk2
            go_wp2_with fail
            refine ht.out.mono ?_
            rintro e w2 ⟨A3, m3, c3, rfl, hs3, hb3⟩
            go_wp2_with fail
            go_ret2
            rw [hfin.out]
            exact RetBytes.err rfl (hb1.trans ((hbel.trans (hb3.mono hbel.size)).mono hb1.size))
        · have dk : decide ((k : Int) < (n : Int)) = false := by simp; omega
          have dk' : decide (k < n) = false := by simp; omega
          obtain rfl : n = k := by omega
          have hsel : readL n r0 [] = (ws, r, 0) := by rw [HR.out, Nat.sub_self]; rfl
          have hfin : Hid (inverseQ src = uncRQ ws r) := by
            show _ = _
            rw [e0.out, hsel]
            rw [if_neg (by simp)]
          clear hsel
          have hu := uncodeQ_any A2 Ab c2 cb n nb ws r wr how.strs hob.bytesBDic (by omega) (fun s hs => by have := HW.out s hs; omega) (by omega)
          rw [← hfin.out] at hu
          have Hu := Lib.hid hu; clear hu
          go_wp2_with fail
          refine Hu.out.mono ?_
          rintro e w2 ⟨A3, m3, c3, rfl, hs3, hb3⟩
          go_wp2_with fail
          go_ret2
          exact RetBytes.mk rfl hs3 (hb1.trans ((hbel.trans (hb3.mono hbel.size)).mono hb1.size))
  · rw [if_pos hk] at e0
    have d1 : ((k : Int) != 0) = true := by simp; omega
    clear hk hee
    go_enter Tryz.func36, Tryz.ntmps36
    go_wp2_with fail
    refine h1.out.mono ?_
    rintro e w1 ⟨A1, m1, c1, rfl, hs1, hb1⟩
    go_wp2_with fail
    go_ret2
    rw [e0.out]
    exact RetBytes.err rfl hb1
theorem inverseQ_length (src : List UInt8) : (inverseQ src).1.length ≤ 65536 := by
  unfold inverseQ
  split
  · exact Nat.zero_le _
  · split
    · exact Nat.zero_le _
    · split
      · exact Nat.zero_le _
      · split
        · exact Nat.zero_le _
        · unfold uncRQ
          split
          · split
            · exact Nat.zero_le _
            · exact uncodeQ_len _ _ _ (Nat.le_refl _) (Nat.zero_le _)
          · exact Nat.zero_le _
theorem uncodeT_any (A A' : Option Addr) (c c' n m : Nat) (ss : List (List UInt8)) (bs : List UInt8) (w : World) (hx : Strs w A n c ss) (hy : Bytes w A' m c' bs) (hn : n ≤ 1000000000) (hl : ∀ s ∈ ss, s.length ≤ 1000000000) (hm : m ≤ 1000000000) :
    Calls Tryz.prog 107 #[.slice A n c, .slice A' m c'] w (RetBytes w (uncRQ ss bs).1 ((uncRQ ss bs).2 : Nat)) := by
  have Hl := Lib.hid hy.1
  have Hn := Lib.hid hx.1
  have hcal := checkR_any A c n ss w hx hn hl
  by_cases hc : checkL ss = 0
  · rw [hc] at hcal
    have Hcal := Lib.hid hcal; clear hcal
    obtain ⟨hs64, hsw, hnd⟩ := checkL_zero.1 hc
    by_cases hm6 : 65536 < m
    · have hR : Hid (uncRQ ss bs = ([], 5)) := by show _ = _; unfold uncRQ; rw [if_pos hc, if_pos (by rw [Hl.out]; exact hm6)]
      have d65 : decide ((65536 : Int) < (m : Int)) = true := by simp; omega
      have d65' : decide (65536 < m) = true := by simp; omega
      clear hs64 hsw hnd hc hm6 hm hl
      go_enter Tryz.func107, Tryz.ntmps107
      go_wp2_with fail
      refine Hcal.out.mono ?_
      rintro e w1 ⟨rfl, hb1⟩
      go_wp2_with fail
      go_ret2
      rw [hR.out]
      exact RetBytes.err rfl hb1
    have hm : m ≤ 65536 := by omega
    clear hm6
    have hR : Hid (uncRQ ss bs = uncodeQ ss bs []) := by show _ = _; unfold uncRQ; rw [if_pos hc, if_neg (by rw [Hl.out]; omega)]
    have HS := Lib.hid hsw; clear hsw hc hnd
    have HL := Lib.hid hl; clear hl
    rw [Hn.out] at hs64
    have d65 : decide ((65536 : Int) < (m : Int)) = false := by simp; omega
    go_enter Tryz.func107, Tryz.ntmps107
    go_wp2_with fail
    refine Hcal.out.mono ?_
    rintro e w1 ⟨rfl, hb1⟩
    have hx1 := hx.below hb1
    have hy1 := hy.below hb1
    clear hx hy Hcal
    go_wp2_with fail
    go_loopw [7, 8, 9] (fun o i _ wr => ∃ (k : Nat) (A2 : Option Addr) (n2 c2 : Nat) (out : List UInt8), k ≤ m ∧ i = .int .i64 (k : Int) ∧ o = .slice A2 n2 c2 ∧ n2 ≤ 65536 ∧ Own encB wr w1.heap.size 5 A2 n2 c2 out ∧ Hid (uncodeQ ss bs [] = uncodeQ ss (bs.drop k) out) ∧ Below w1.heap.size w1 wr) (fun _ i _ _ => m - (intOf i).toNat)
    case atStart => exact ⟨0, none, 0, 0, [], Nat.zero_le _, rfl, rfl, by omega, Own.nil _ _ _ _, by simp [Hid], Below.refl _ _⟩
    case round =>
      obtain ⟨k, A2, n2, c2, out, hk, rfl, rfl, hn2, hown, HU, hbel⟩ := hrel
      have hol := hown.length
      by_cases hlt : k < m
      · have hU := HU.out
        rw [drop_at (by rw [Hl.out]; exact hlt)] at hU
        have hxr := hx1.below hbel
        have hyr := hy1.below hbel
        obtain ⟨bb, off, rfl, hbk, hcell⟩ := hyr.get hlt
        have c1 := hcell k hlt
        clear hcell
        obtain ⟨y, hyd⟩ : ∃ y, y = bs.getD k 0 := ⟨_, rfl⟩
        rw [← hyd] at hU
        have hgb : gb bs k = (y.toNat : Int) := by rw [hyd]; rfl
        have hy256 := y.toNat_lt
        rw [hgb] at c1
        clear hgb hyd
        have Hey : Hid (encB y = .int .u8 (y.toNat : Int)) := rfl
        have m1 : Hid (n2 + 1 ≤ maxLen ∧ (n2 + 1) * 1 ≤ 140737488355328) := ⟨by simp [maxLen]; omega, by omega⟩
        have HU0 : Hid True := trivial
        by_cases h1 : y.toNat < 128
        · rw [uncodeQ_low h1] at hU
          obtain ⟨X, hX⟩ : ∃ X, X = y.toNat := ⟨_, rfl⟩
          rw [← hX] at c1 h1 hy256 Hey
          clear hX
          have d1 : decide ((128 : Int) ≤ (X : Int)) = false := by simp; omega
          have d1' : decide (128 ≤ X) = false := by simp; omega
          have d2 : decide ((X : Int) < 128) = true := by simp; omega
          have d2' : decide (X < 128) = true := by simp; omega
          by_cases hlm : 65536 < n2 + 1
          · have HU1 : Hid (uncodeQ ss bs [] = ([], 5)) := by show _ = _; rw [hU, lmt_long (by rw [List.length_append, hol]; exact hlm)]
            clear hU
            have d3 : decide ((65536 : Int) < ((n2 + 1 : Nat) : Int)) = true := by simp; omega
            have d3' : decide ((65536 : Int) < (n2 : Int) + 1) = true := by simp; omega
            clear hol hn2 hlm
            go_wp2_with (at_builtin; refine wpList_pushv (enc := encB) rfl (.tmp 44) (.tmp 46) rfl uB infoB encB_one rfl rfl hown hbel.size y _ Hey.out rfl m1.out.1 m1.out.2 ?_; intro A6 c6 W6 ho6 hb6)
            go_ret2
            rw [hR.out, HU1.out]
            exact RetBytes.err rfl (hb1.trans ((hbel.trans hb6).mono hb1.size))
          · have HU1 : Hid (uncodeQ ss bs [] = uncodeQ ss (bs.drop (k + 1)) (out ++ [y])) := by show _ = _; rw [hU, lmt_short (by rw [List.length_append, hol]; exact Nat.not_lt.1 hlm)]
            clear hU
            have d3 : decide ((65536 : Int) < ((n2 + 1 : Nat) : Int)) = false := by simp; omega
            have d3' : decide ((65536 : Int) < (n2 : Int) + 1) = false := by simp; omega
            go_wp2_with (at_builtin; refine wpList_pushv (enc := encB) rfl (.tmp 44) (.tmp 46) rfl uB infoB encB_one rfl rfl hown hbel.size y _ Hey.out rfl m1.out.1 m1.out.2 ?_; intro A6 c6 W6 ho6 hb6)
            go_roundw
            case rel => exact ⟨k + 1, A6, n2 + 1, c6, _, by omega, by go_num, rfl, by omega, ho6, HU1, hbel.trans hb6⟩
            case measure => simp [intOf]; omega
        · by_cases h255 : y.toNat = 255
          · rw [uncodeQ_esc h255] at hU
            have HU1 := Lib.hid hU; clear hU
            have hX1 : 255 ≤ y.toNat := by omega
            clear h255 h1
            obtain ⟨X, hX⟩ : ∃ X, X = y.toNat := ⟨_, rfl⟩
            rw [← hX] at c1 hy256 Hey hX1
            clear hX
            have d1 : decide ((128 : Int) ≤ (X : Int)) = true := by simp; omega
            have d1' : decide (128 ≤ X) = true := by simp; omega
            have d2 : decide ((X : Int) < 128) = false := by simp; omega
            have d2' : decide (X < 128) = false := by simp; omega
            have d3 : decide ((X : Int) < 255) = false := by simp; omega
            have d3' : decide (X < 255) = false := by simp; omega
            by_cases hk1 : k + 1 < m
            · have d4 : ((k : Int) + 1 == (m : Int)) = false := by simp; omega
              have d4' : (((k + 1 : Nat) : Int) == (m : Int)) = false := by simp; omega
              have HU2 := HU1.out
              rw [drop_at (k := k + 1) (by rw [Hl.out]; exact hk1)] at HU2
              have c3 := hyr.cell (k := k + 1) hk1
              obtain ⟨z, hzd⟩ : ∃ z, z = bs.getD (k + 1) 0 := ⟨_, rfl⟩
              rw [← hzd] at HU2
              have hgb : gb bs (k + 1) = (z.toNat : Int) := by rw [hzd]; rfl
              have hz256 := z.toNat_lt
              rw [hgb] at c3
              clear hgb hzd HU1
              have Hez : Hid (encB z = .int .u8 (z.toNat : Int)) := rfl
              simp only at HU2
              by_cases hz : z.toNat < 128
              · rw [if_pos hz] at HU2
                have HU3 := Lib.hid HU2; clear HU2
                obtain ⟨Z, hZ⟩ : ∃ Z, Z = z.toNat := ⟨_, rfl⟩
                rw [← hZ] at c3 hz256 Hez hz
                clear hZ
                have d5 : decide ((Z : Int) < 128) = true := by simp; omega
                have d5' : decide (Z < 128) = true := by simp; omega
                go_wp2_with fail
                go_ret2
                rw [hR.out, HU3.out]
                exact RetBytes.err rfl (hb1.trans (hbel.mono hb1.size))
              · rw [if_neg hz] at HU2
                obtain ⟨Z, hZ⟩ : ∃ Z, Z = z.toNat := ⟨_, rfl⟩
                rw [← hZ] at c3 hz256 Hez hz
                clear hZ
                have d5 : decide ((Z : Int) < 128) = false := by simp; omega
                have d5' : decide (Z < 128) = false := by simp; omega
                by_cases hlm : 65536 < n2 + 1
                · have HU3 : Hid (uncodeQ ss bs [] = ([], 5)) := by show _ = _; rw [HU2, lmt_long (by rw [List.length_append, hol]; exact hlm)]
                  clear HU2
                  have d6 : decide ((65536 : Int) < ((n2 + 1 : Nat) : Int)) = true := by simp; omega
                  have d6' : decide ((65536 : Int) < (n2 : Int) + 1) = true := by simp; omega
                  clear hol hn2 hlm
                  go_wp2_with (at_builtin; refine wpList_pushv (enc := encB) rfl (.tmp 68) (.tmp 73) rfl uB infoB encB_one rfl rfl hown hbel.size z _ Hez.out rfl m1.out.1 m1.out.2 ?_; intro A6 c6 W6 ho6 hb6)
                  go_ret2
                  rw [hR.out, HU3.out]
                  exact RetBytes.err rfl (hb1.trans ((hbel.trans hb6).mono hb1.size))
                · have HU3 : Hid (uncodeQ ss bs [] = uncodeQ ss (bs.drop (k + 1 + 1)) (out ++ [z])) := by show _ = _; rw [HU2, lmt_short (by rw [List.length_append, hol]; exact Nat.not_lt.1 hlm)]
                  clear HU2
                  have d6 : decide ((65536 : Int) < ((n2 + 1 : Nat) : Int)) = false := by simp; omega
                  have d6' : decide ((65536 : Int) < (n2 : Int) + 1) = false := by simp; omega
                  go_wp2_with (at_builtin; refine wpList_pushv (enc := encB) rfl (.tmp 68) (.tmp 73) rfl uB infoB encB_one rfl rfl hown hbel.size z _ Hez.out rfl m1.out.1 m1.out.2 ?_; intro A6 c6 W6 ho6 hb6)
                  go_roundw
                  case rel => exact ⟨k + 1 + 1, A6, n2 + 1, c6, _, by omega, by go_num, rfl, by omega, ho6, HU3, hbel.trans hb6⟩
                  case measure => simp [intOf]; omega
            · have d4 : ((k : Int) + 1 == (m : Int)) = true := by simp; omega
              have d4' : (((k + 1 : Nat) : Int) == (m : Int)) = true := by simp; omega
              have HU2 : Hid (uncodeQ ss bs [] = ([], 9)) := by
                show _ = _
                rw [HU1.out, List.drop_of_length_le (by rw [Hl.out]; omega)]
              clear HU1
              go_wp2_with fail
              go_ret2
              rw [hR.out, HU2.out]
              exact RetBytes.err rfl (hb1.trans (hbel.mono hb1.size))
          · by_cases hw : y.toNat - 128 < n
            · rw [uncodeQ_word (by omega) h255 (by rw [Hn.out]; exact hw)] at hU
              have hwl := word_len HS.out (j := y.toNat - 128) (by rw [Hn.out]; exact hw)
              obtain ⟨b4, off4, rfl, hb4, hc4⟩ := hxr.get hw
              have c4 := hc4 (y.toNat - 128) hw
              clear hc4
              obtain ⟨X, hX⟩ : ∃ X, X = y.toNat := ⟨_, rfl⟩
              rw [← hX] at c1 c4 hy256 Hey h255 h1 hw hwl hU
              clear hX
              have d1 : decide ((128 : Int) ≤ (X : Int)) = true := by simp; omega
              have d1' : decide (128 ≤ X) = true := by simp; omega
              have d2 : decide ((X : Int) < 128) = false := by simp; omega
              have d2' : decide (X < 128) = false := by simp; omega
              have d3 : decide ((X : Int) < 255) = true := by simp; omega
              have d3' : decide (X < 255) = true := by simp; omega
              have d4 : decide ((n : Int) ≤ (X : Int) - 128) = false := by simp; omega
              have b8 : (X : Int) - 128 < (n : Int) := by omega
              have b0 : 0 ≤ (X : Int) - 128 := by omega
              have m2 : Hid (n2 + (gs ss (X - 128)).length ≤ maxLen ∧ n2 + (gs ss (X - 128)).length ≤ 140737488355328) := ⟨by simp [maxLen]; omega, by omega⟩
              have h1' : 128 ≤ X := by omega
              clear h1 h255
              by_cases hlm : 65536 < n2 + (gs ss (X - 128)).length
              · have HU1 : Hid (uncodeQ ss bs [] = ([], 5)) := by show _ = _; rw [hU, lmt_long (by rw [List.length_append, hol]; exact hlm)]
                clear hU
                have d6 : decide ((65536 : Int) < ((n2 + (gs ss (X - 128)).length : Nat) : Int)) = true := by simp; omega
                have d6' : decide ((65536 : Int) < (n2 : Int) + (((gs ss (X - 128)).length : Nat) : Int)) = true := by simp; omega
                clear hol hn2 hlm
                go_wp2_with (at_builtin; refine wpList_apps rfl (.tmp 50) (.tmp 55) rfl uB uS infoB rfl hown hbel.size (gs ss (X - 128)) rfl m2.out.1 m2.out.2 ?_; intro A6 c6 W6 ho6 hb6)
                go_ret2
                rw [hR.out, HU1.out]
                exact RetBytes.err rfl (hb1.trans ((hbel.trans hb6).mono hb1.size))
              · have HU1 : Hid (uncodeQ ss bs [] = uncodeQ ss (bs.drop (k + 1)) (out ++ gs ss (X - 128))) := by show _ = _; rw [hU, lmt_short (by rw [List.length_append, hol]; exact Nat.not_lt.1 hlm)]
                clear hU
                have d6 : decide ((65536 : Int) < ((n2 + (gs ss (X - 128)).length : Nat) : Int)) = false := by simp; omega
                have d6' : decide ((65536 : Int) < (n2 : Int) + (((gs ss (X - 128)).length : Nat) : Int)) = false := by simp; omega
                go_wp2_with (at_builtin; refine wpList_apps rfl (.tmp 50) (.tmp 55) rfl uB uS infoB rfl hown hbel.size (gs ss (X - 128)) rfl m2.out.1 m2.out.2 ?_; intro A6 c6 W6 ho6 hb6)
                go_roundw
                case rel => exact ⟨k + 1, A6, n2 + (gs ss (X - 128)).length, c6, _, by omega, by go_num, rfl, by omega, ho6, HU1, hbel.trans hb6⟩
                case measure => simp [intOf]; omega
            · rw [uncodeQ_none (by omega) h255 (by rw [Hn.out]; omega)] at hU
              have HU1 := Lib.hid hU; clear hU
              obtain ⟨X, hX⟩ : ∃ X, X = y.toNat := ⟨_, rfl⟩
              rw [← hX] at c1 hy256 Hey h255 h1 hw
              clear hX
              have d1 : decide ((128 : Int) ≤ (X : Int)) = true := by simp; omega
              have d1' : decide (128 ≤ X) = true := by simp; omega
              have d3 : decide ((X : Int) < 255) = true := by simp; omega
              have d3' : decide (X < 255) = true := by simp; omega
              have d4 : decide ((n : Int) ≤ (X : Int) - 128) = true := by simp; omega
              go_wp2_with fail
              go_ret2
              rw [hR.out, HU1.out]
              exact RetBytes.err rfl (hb1.trans (hbel.mono hb1.size))
      · have HU2 : Hid (uncodeQ ss bs [] = (out, 0)) := by
          show _ = _
          rw [HU.out, List.drop_of_length_le (by rw [Hl.out]; omega)]
          rfl
        go_wp2_with fail
        go_ret2
        rw [hR.out, HU2.out]
        exact RetBytes.mk rfl hown.bytesBDic (hb1.trans (hbel.mono hb1.size))
  · rw [show ((checkL ss : Nat) : Int) = _ from rfl] at hcal
    have Hcal := Lib.hid hcal; clear hcal
    have hR : Hid ((uncRQ ss bs).1 = [] ∧ (uncRQ ss bs).2 = checkL ss) := by show _ ∧ _; unfold uncRQ; rw [if_neg hc]; exact ⟨rfl, rfl⟩
    have d0 : (((checkL ss : Nat) : Int) != 0) = true := by simp; exact hc
    clear hc
    go_enter Tryz.func107, Tryz.ntmps107
    go_wp2_with fail
    refine Hcal.out.mono ?_
    rintro e w1 ⟨rfl, hb1⟩
    go_wp2_with fail
    go_ret2
    rw [hR.out.1, hR.out.2]
    exact RetBytes.err rfl hb1
theorem inverseT_any (A : Option Addr) (m c : Nat) (src : List UInt8) (w : World) (hx : Bytes w A m c src) (hm : m ≤ 1000000) :
    Calls Tryz.prog 53 #[.slice A m c] w (RetBytes w (inverseQ src).1 ((inverseQ src).2 : Nat)) := by
  have Hl := Lib.hid hx.1
  by_cases hm6 : 65536 < m
  · have hR : Hid (inverseQ src = ([], 5)) := by show _ = _; unfold inverseQ; rw [if_pos (by rw [Hl.out]; exact hm6)]
    have d65 : decide ((65536 : Int) < (m : Int)) = true := by simp; omega
    have d65' : decide (65536 < m) = true := by simp; omega
    clear hm6 hm hx
    go_enter Tryz.func53, Tryz.ntmps53
    go_wp2_with fail
    go_ret2
    rw [hR.out]
    exact RetBytes.err rfl (Below.refl _ _)
  have h1 := Lib.hid (intR_any A m c src w hx (by omega))
  have hlen := intL_len src
  rw [Hl.out] at hlen
  have hval := intL_val src
  have e0 : Hid (inverseQ src = if (intL src).2.2 ≠ 0 then ([], (intL src).2.2) else if 64 < (intL src).1 then ([], 6) else if (readL (intL src).1 (intL src).2.1 []).2.2 ≠ 0 then ([], (readL (intL src).1 (intL src).2.1 []).2.2) else uncRQ (readL (intL src).1 (intL src).2.1 []).1 (readL (intL src).1 (intL src).2.1 []).2.1) := by show _ = _; unfold inverseQ; rw [Hl.out, if_neg hm6]
  have hee := intL_errv src
  obtain ⟨x, hxx⟩ : ∃ x, x = intL src := ⟨_, rfl⟩
  rw [← hxx] at h1 hlen hval e0 hee
  clear hxx
  obtain ⟨n, r0, k⟩ := x
  simp only at hlen hval e0 hee
  have d65 : decide ((65536 : Int) < (m : Int)) = false := by simp; omega
  have d65' : decide (65536 < m) = false := by simp; omega
  clear hm6
  by_cases hk : k = 0
  · subst hk
    rw [if_neg (by simp)] at e0
    clear hee
    by_cases hbig : 64 < n
    · rw [if_pos hbig] at e0
      have d1 : decide ((64 : Int) < (n : Int)) = true := by simp; omega
      have d1' : decide (64 < n) = true := by simp; omega
      go_enter Tryz.func53, Tryz.ntmps53
      go_wp2_with fail
      refine h1.out.mono ?_
      rintro e w1 ⟨A1, m1, c1, rfl, hs1, hb1⟩
      go_wp2_with fail
      go_ret2
      rw [e0.out]
      exact RetBytes.err rfl hb1
    · rw [if_neg hbig] at e0
      have d1 : decide ((64 : Int) < (n : Int)) = false := by simp; omega
      have d1' : decide (64 < n) = false := by simp; omega
      go_enter Tryz.func53, Tryz.ntmps53
      go_wp2_with fail
      refine h1.out.mono ?_
      rintro e w1 ⟨A1, m1, c1, rfl, hs1, hb1⟩
      have hm1 : m1 ≤ m := by rw [← hs1.length]; exact hlen
      clear h1
      go_wp2_with fail
      go_loopw [5, 7, 8, 9, 10, 11] (fun vb vo vi _ _ _ wr => ∃ (k : Nat) (Ab : Option Addr) (nb cb : Nat) (r : List UInt8) (Bb : Nat) (A2 : Option Addr) (c2 : Nat) (ws : List (List UInt8)), k ≤ n ∧ vi = .int .i64 (k : Int) ∧ vb = .slice Ab nb cb ∧ nb ≤ m ∧ Own encB wr Bb 5 Ab nb cb r ∧ vo = .slice A2 k c2 ∧ Own encS wr w1.heap.size 9 A2 k c2 ws ∧ Hid (∀ s ∈ ws, s.length ≤ 65536) ∧ Hid (readL n r0 [] = readL (n - k) r ws) ∧ Below w1.heap.size w1 wr) (fun _ _ vi _ _ _ _ => n - (intOf vi).toNat)
      case atStart => exact ⟨0, A1, m1, c1, r0, w.heap.size, none, 0, [], Nat.zero_le _, rfl, rfl, hm1, hs1, rfl, Own.nil _ _ _ _, (fun s hs => by cases hs), rfl, Below.refl _ _⟩
      case round =>
        obtain ⟨k, Ab, nb, cb, r, Bb, A2, c2, ws, hk, rfl, rfl, hnb, hob, rfl, how, HW, HR, hbel⟩ := hrel
        by_cases hlt : k < n
        · have dk : decide ((k : Int) < (n : Int)) = true := by simp; omega
          have dk' : decide (k < n) = true := by simp; omega
          have ht := Lib.hid (textR_any Ab nb cb r wr hob.bytesBDic (by omega))
          have hsel : readL (n - k) r ws = if (textL r).2.2 ≠ 0 then ([], [], (textL r).2.2) else readL (n - (k + 1)) (textL r).2.1 (ws ++ [(textL r).1]) := by
            rw [show n - k = (n - (k + 1)) + 1 by omega, readL]
          obtain ⟨htl1, htl2⟩ := textL_len r
          have hlr := Lib.hid hob.length
          rw [hlr.out] at htl1
          obtain ⟨y, hyy⟩ : ∃ y, y = textL r := ⟨_, rfl⟩
          rw [← hyy] at ht hsel htl1 htl2
          clear hyy
          obtain ⟨s, r2, k2⟩ := y
          simp only at hsel htl1 htl2
          by_cases hk2 : k2 = 0
          · subst hk2
            rw [if_neg (by simp)] at hsel
            have HR2 : Hid (readL n r0 [] = readL (n - (k + 1)) r2 (ws ++ [s])) := by show _ = _; rw [HR.out, hsel]
            clear hsel
            have m1' : Hid (k + 1 ≤ maxLen ∧ (k + 1) * 16 ≤ 140737488355328) := ⟨by simp [maxLen]; omega, by omega⟩
            have hgl := Lib.hid (own_block_lt how)
            go_wp2_with fail
            refine ht.out.mono ?_
            rintro e w2 ⟨A3, m3, c3, rfl, hs3, hb3⟩
            have how3 := how.below hb3
            have hB3 : Hid (w1.heap.size ≤ w2.heap.size) := Nat.le_trans hbel.size hb3.size
            have hl3 : Hid (m3 ≤ nb) := by show _ ≤ _; rw [← hs3.length]; exact htl1
            go_wp2_with (at_builtin; refine wpList_pushg (enc := encS) rfl (.tmp 40) (.tmp 42) rfl uSS infoS encS_one rfl rfl how3 hB3.out s rfl m1'.out.1 m1'.out.2 ?_; intro A6 c6 W6 ho6 hb6 hg6)
            have hs6 := hs3.past (N := 0) hg6 (fun g hg => hgl.out g hg)
            go_roundw
            case rel => exact ⟨k + 1, A3, m3, c3, r2, wr.heap.size, A6, c6, ws ++ [s], by omega, by go_num, rfl, by have := hl3.out; omega, hs6, rfl, ho6, (short_snoc HW.out htl2), HR2, hbel.trans ((hb3.mono hbel.size).trans hb6)⟩
            case measure => simp [intOf]; omega
          · rw [if_pos hk2] at hsel
            have hfin : Hid (inverseQ src = ([], k2)) := by
              show _ = _
              rw [e0.out, if_pos (by rw [HR.out, hsel]; exact hk2), HR.out, hsel]
            have d2 : ((k2 : Int) != 0) = true := by simp; omega
            clear hsel hk2
            go_wp2_with fail
            refine ht.out.mono ?_
            rintro e w2 ⟨A3, m3, c3, rfl, hs3, hb3⟩
            go_wp2_with fail
            go_ret2
            rw [hfin.out]
            exact RetBytes.err rfl (hb1.trans ((hbel.trans (hb3.mono hbel.size)).mono hb1.size))
        · have dk : decide ((k : Int) < (n : Int)) = false := by simp; omega
          have dk' : decide (k < n) = false := by simp; omega
          obtain rfl : n = k := by omega
          have hsel : readL n r0 [] = (ws, r, 0) := by rw [HR.out, Nat.sub_self]; rfl
          have hfin : Hid (inverseQ src = uncRQ ws r) := by
            show _ = _
            rw [e0.out, hsel]
            rw [if_neg (by simp)]
          clear hsel
          have hu := uncodeT_any A2 Ab c2 cb n nb ws r wr how.strs hob.bytesBDic (by omega) (fun s hs => by have := HW.out s hs; omega) (by omega)
          rw [← hfin.out] at hu
          have Hu := Lib.hid hu; clear hu
          go_wp2_with fail
          refine Hu.out.mono ?_
          rintro e w2 ⟨A3, m3, c3, rfl, hs3, hb3⟩
          go_wp2_with fail
          go_ret2
          exact RetBytes.mk rfl hs3 (hb1.trans ((hbel.trans (hb3.mono hbel.size)).mono hb1.size))
  · rw [if_pos hk] at e0
    have d1 : ((k : Int) != 0) = true := by simp; omega
    clear hk hee
    go_enter Tryz.func53, Tryz.ntmps53
    go_wp2_with fail
    refine h1.out.mono ?_
    rintro e w1 ⟨A1, m1, c1, rfl, hs1, hb1⟩
    go_wp2_with fail
    go_ret2
    rw [e0.out]
    exact RetBytes.err rfl hb1
end Go.Proofs.YtohadkmaemmfgaaGreatDoor.Dic
