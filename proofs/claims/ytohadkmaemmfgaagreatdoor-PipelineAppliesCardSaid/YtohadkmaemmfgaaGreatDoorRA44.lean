/- Dv Dw Dx Dy Dz Eb Eu Ev Ew. -/
import Derived.Test.YtohadkmaemmfgaaGreatDoorRA34
import Derived.Lib.SlBytesConst
import Derived.Lib.ItoaNum
import Derived.Laws.BitsLemmas
import Derived.IntWalk
import Derived.Deep.RegionWith
set_option maxRecDepth 100000
set_option maxHeartbeats 4000000
namespace Go.Proofs.YtohadkmaemmfgaaGreatDoor.Dic
open Go.RowKit Go.Proofs Go.Sort
set_option linter.unusedVariables false
theorem balloc {w w1 : World} (h : Below w.heap.size w w1) (o : Obj) : Below w.heap.size w (w1.alloc o) := h.alloc h.size o
def pw (k : Nat) : Nat := 2 ^ k
theorem pw_succ (k : Nat) : pw (k + 1) = 2 * pw k := by unfold pw; rw [Nat.pow_succ]; omega
theorem pw_mono {a b : Nat} (h : a ≤ b) : pw a ≤ pw b := Nat.pow_le_pow_right (by omega) h
theorem power_any (n : Nat) (w : World) (hn : n ≤ 62) : Calls Tryz.prog 169 #[.int .i64 (n : Int)] w fun e w' => e = .returned (.int .i64 ((pw n : Nat) : Int)) ∧ w' = w := by
  go_enter Tryz.func169, Tryz.ntmps169
  go_wp2
  go_loop [3, 4] (fun p i => ∃ k : Nat, k ≤ n ∧ i = .int .i64 (k : Int) ∧ p = .int .i64 ((pw k : Nat) : Int)) (fun _ i => n - (intOf i).toNat)
  case atStart => exact ⟨0, Nat.zero_le _, rfl, rfl⟩
  case round =>
    obtain ⟨k, hk, rfl, rfl⟩ := hrel
    by_cases hlt : k < n
    · have hb : pw k ≤ 2305843009213693952 := Nat.le_trans (pw_mono (b := 61) (by omega)) (by decide)
      have hs := Lib.hid (pw_succ k)
      obtain ⟨p, hp⟩ : ∃ p, p = pw k := ⟨_, rfl⟩
      rw [← hp] at hb hs
      rw [← hp]
      clear hp
      have dk : decide ((k : Int) < (n : Int)) = true := by simp; omega
      have dk' : decide (k < n) = true := by simp; omega
      go_wp2
      go_round
      case rel => exact ⟨k + 1, by omega, by go_num, by rw [hs.out]; go_num⟩
      case measure => simp [intOf]; omega
    · have dk : decide ((k : Int) < (n : Int)) = false := by simp; omega
      have dk' : decide (k < n) = false := by simp; omega
      obtain rfl : n = k := by omega
      go_wp2
      go_ret
      exact ⟨rfl, rfl⟩
theorem numberR_any (n : Nat) (w : World) (hn : n ≤ 9007199254740991) : Calls Tryz.prog 179 #[.int .i64 (n : Int)] w fun e w' => e = .returned (.int .i64 (n : Int)) ∧ w' = w := by
  have d1 : decide ((n : Int) < 0) = false := by simp
  have d2 : decide ((9007199254740991 : Int) < (n : Int)) = false := by simp; omega
  go_enter Tryz.func179, Tryz.ntmps179
  go_wp2
  go_ret
  exact ⟨rfl, rfl⟩
theorem bitLen_bounds {n : Nat} (h : n < 18446744073709551616) (h0 : n ≠ 0) : 1 ≤ Lib.bitLen n ∧ 2 ^ (Lib.bitLen n - 1) ≤ n ∧ n < 2 ^ Lib.bitLen n := Lib.bitLenAux_bounds 64 n (by omega) h0
theorem furL_lt {n k : Nat} (hn : n < 72057594037927936) : pw (7 * (k + 1)) ≤ n ↔ k < furL n := by
  unfold furL pw
  rcases Nat.eq_zero_or_pos n with h | h
  · subst h
    have : Lib.bitLen 0 = 0 := by decide
    rw [this]
    have := Nat.one_le_two_pow (n := 7 * (k + 1))
    simp
  · obtain ⟨h1, h2, h3⟩ := bitLen_bounds (n := n) (by omega) (by omega)
    constructor
    · intro h4
      have h5 : 2 ^ (7 * (k + 1)) < 2 ^ Lib.bitLen n := Nat.lt_of_le_of_lt h4 h3
      have := (Nat.pow_lt_pow_iff_right (by omega : 1 < 2)).1 h5
      omega
    · intro h4
      exact Nat.le_trans (Nat.pow_le_pow_right (by omega) (by omega)) h2
theorem furL_le {n : Nat} (hn : n < 72057594037927936) : furL n ≤ 7 := by
  have : Lib.bitLen n ≤ 56 := Lib.bitLen_le n 56 (by omega) (by omega)
  unfold furL; omega
theorem sizeR_any (n : Nat) (w : World) (hn : n ≤ 9007199254740991) : Calls Tryz.prog 170 #[.int .i64 (n : Int)] w fun e w' => e = .returned (.int .i64 ((furL n : Nat) + 1 : Int)) ∧ w' = w := by
  have h1 := Lib.hid (numberR_any n w hn)
  have hle := furL_le (n := n) (by omega)
  have hlt := Lib.hid (fun k => furL_lt (n := n) (k := k) (by omega))
  obtain ⟨fu, hfu⟩ : ∃ fu, fu = furL n := ⟨_, rfl⟩
  rw [← hfu] at hle hlt
  rw [← hfu]
  clear hfu
  go_enter Tryz.func170, Tryz.ntmps170
  go_wp2
  go_loop [3] (fun i => ∃ k : Nat, k ≤ fu ∧ i = .int .i64 (k : Int)) (fun i => fu - (intOf i).toNat)
  case atStart => exact ⟨0, Nat.zero_le _, rfl⟩
  case round =>
    obtain ⟨k, hk, rfl⟩ := hrel
    have h2 := power_any (7 * (k + 1)) w (by omega)
    rw [show ((7 * (k + 1) : Nat) : Int) = 7 * ((k : Int) + 1) by omega] at h2
    have H2 := Lib.hid h2; clear h2
    have hiff := hlt.out k
    obtain ⟨p, hp⟩ : ∃ p, p = pw (7 * (k + 1)) := ⟨_, rfl⟩
    rw [← hp] at H2 hiff
    clear hp
    by_cases hkf : k < fu
    · have hpn : p ≤ n := hiff.2 hkf
      have d1 : decide ((p : Int) ≤ (n : Int)) = true := by simp; omega
      have d1' : decide (p ≤ n) = true := by simp; omega
      clear hiff
      go_wp2_with (first
        | (go_at_call 179; refine h1.out.mono ?_; rintro e w1 ⟨rfl, hw1⟩; obtain rfl : w = w1 := hw1.symm)
        | (go_at_call 169; refine H2.out.mono ?_; rintro e w1 ⟨rfl, hw1⟩; obtain rfl : w = w1 := hw1.symm))
      go_round
      case rel => exact ⟨k + 1, by omega, by go_num⟩
      case measure => simp [intOf]; omega
    · have hpn : ¬ p ≤ n := fun h => hkf (hiff.1 h)
      have d1 : decide ((p : Int) ≤ (n : Int)) = false := by simp; omega
      have d1' : decide (p ≤ n) = false := by simp; omega
      clear hiff
      go_wp2_with (first
        | (go_at_call 179; refine h1.out.mono ?_; rintro e w1 ⟨rfl, hw1⟩; obtain rfl : w = w1 := hw1.symm)
        | (go_at_call 169; refine H2.out.mono ?_; rintro e w1 ⟨rfl, hw1⟩; obtain rfl : w = w1 := hw1.symm))
      go_ret
      exact ⟨ret_int (by omega), rfl⟩
theorem putIntR_small (A : Option Addr) (m c : Nat) (xs : List UInt8) (n : Nat) (w : World) (hx : Bytes w A m c xs) (hm : m ≤ 900000) (hn : n ≤ 127) :
    Calls Tryz.prog 110 #[.slice A m c, .int .i64 (n : Int)] w (RetOwn w.heap.size w (xs ++ [UInt8.ofNat n])) := by
  have h1 := Lib.hid (numberR_any n w (by omega))
  have h2 := sizeR_any n w (by omega)
  rw [furL_small hn] at h2
  have H2 := Lib.hid h2; clear h2
  have Hx := Lib.hid hx.1
  have m1 : Hid (0 + m ≤ maxLen ∧ (0 + m) * 1 ≤ 140737488355328) := ⟨by simp [maxLen]; omega, by omega⟩
  have m2 : Hid (m + 1 ≤ maxLen ∧ (m + 1) * 1 ≤ 140737488355328) := ⟨by simp [maxLen]; omega, by omega⟩
  have hv : Hid (encB (UInt8.ofNat n) = .int .u8 (n : Int)) := by show _ = _; unfold encB; rw [UInt8.toNat_ofNat', Nat.mod_eq_of_lt (by omega)]
  go_enter Tryz.func110, Tryz.ntmps110
  go_wp2_with (first
    | (go_at_call 179; refine h1.out.mono ?_; rintro e w1 ⟨rfl, hw1⟩; obtain rfl : w = w1 := hw1.symm)
    | (go_at_call 170; refine H2.out.mono ?_; rintro e w1 ⟨rfl, hw1⟩; obtain rfl : w = w1 := hw1.symm)
    | (at_builtin; refine wpList_app (enc := encB) rfl (.tmp 13) (.tmp 14) rfl uB infoB encB_one rfl rfl (Own.nil encB w w.heap.size _) (Nat.le_refl _) A m c xs 0 Hx.out hx.2.2 rfl m1.out.1 m1.out.2 ?_; intro A6 c6 W6 ho6 hb6 hg6))
  rw [List.nil_append, Nat.zero_add] at ho6
  have H8 := power_any 8 W6 (by omega)
  have H0 := power_any 0 W6 (by omega)
  rw [show pw 8 = 256 from rfl] at H8
  rw [show pw 0 = 1 from rfl] at H0
  have G8 := Lib.hid H8; clear H8
  have G0 := Lib.hid H0; clear H0
  have hsz6 := Lib.hid hb6.size
  refine G8.out.mono ?_
  rintro e w1 ⟨rfl, hw1⟩
  obtain rfl : W6 = w1 := hw1.symm
  go_wp2_with fail
  refine G0.out.mono ?_
  rintro e w1 ⟨rfl, hw1⟩
  obtain rfl : W6 = w1 := hw1.symm
  go_wp2_with (at_builtin; refine wpList_pushv (enc := encB) rfl (.tmp 16) (.tmp 28) rfl uB infoB encB_one rfl rfl ho6 hsz6.out (UInt8.ofNat n) _ hv.out rfl m2.out.1 m2.out.2 ?_; intro A7 c7 W7 ho7 hb7)
  refine wp_loop_rounds 1 ?_
  rw [rounds_succ]
  go_wp2_with fail
  go_ret
  exact RetOwn.mk ho7 (hb6.trans hb7)
theorem putTextR_small (A : Option Addr) (m c : Nat) (xs ys : List UInt8) (w : World) (hx : Bytes w A m c xs) (hm : m ≤ 800000) (hn : ys.length ≤ 127) :
    Calls Tryz.prog 111 #[.slice A m c, .string (strB ys)] w (RetOwn w.heap.size w (xs ++ (UInt8.ofNat ys.length :: ys))) := by
  have hz := Lib.hid (strB_size ys)
  have h1 := putIntR_small A m c xs ys.length w hx (by omega) hn
  rw [← hz.out] at h1
  have H1 := Lib.hid h1; clear h1
  have Hm := Lib.hid hx.1
  go_enter Tryz.func111, Tryz.ntmps111
  go_wp2_with fail
  refine H1.out.mono ?_
  rintro e w1 ⟨A1, n1, c1, rfl, ho1, hb1⟩
  have hn1 : n1 ≤ 800001 := by rw [← ho1.length, List.length_append, Hm.out]; simp; omega
  have m1 : Hid (n1 + ys.length ≤ maxLen ∧ n1 + ys.length ≤ 140737488355328) := ⟨by simp [maxLen]; omega, by omega⟩
  have hB := Lib.hid hb1.size
  go_wp2_with (at_builtin; refine wpList_apps rfl (.tmp 8) (.tmp 9) rfl uB uS infoB rfl ho1 hB.out ys rfl m1.out.1 m1.out.2 ?_; intro A7 c7 W7 ho7 hb7)
  go_ret
  rw [hz.out] at ho7
  exact RetOwn.mk (by simpa using ho7) (hb1.trans hb7)
def RetIntB (w : World) (x : Nat × List UInt8 × Nat) (e : Ending) (w' : World) : Prop := ∃ A m c, e = .returned (.tuple #[.int .i64 (x.1 : Int), .slice A m c, .int .i64 (x.2.2 : Int)]) ∧ Own encB w' w.heap.size 5 A m c x.2.1 ∧ Below w.heap.size w w'
theorem RetIntB.err {w w' : World} {x : Nat × List UInt8 × Nat} {k : Nat} (hx : x = (0, [], k)) (hb : Below w.heap.size w w') : RetIntB w x (.returned (.tuple #[.int .i64 0, .slice none 0 0, .int .i64 (k : Int)])) w' := by
  subst hx
  exact ⟨none, 0, 0, rfl, Own.nil _ _ _ _, hb⟩
def RetBB (w : World) (x : List UInt8 × List UInt8 × Nat) (e : Ending) (w' : World) : Prop := ∃ A m c A' m' c', e = .returned (.tuple #[.slice A m c, .slice A' m' c', .int .i64 (x.2.2 : Int)]) ∧ Bytes w' A m c x.1 ∧ Own encB w' w.heap.size 5 A' m' c' x.2.1 ∧ Below w.heap.size w w'
theorem RetBB.err {w w' : World} {x : List UInt8 × List UInt8 × Nat} {k : Nat} (hx : x = ([], [], k)) (hb : Below w.heap.size w w') : RetBB w x (.returned (.tuple #[.slice none 0 0, .slice none 0 0, .int .i64 (k : Int)])) w' := by
  subst hx
  exact ⟨none, 0, 0, none, 0, 0, rfl, Bytes.nil _ _, Own.nil _ _ _ _, hb⟩
section
variable {α : Type} {enc : α → Value} {P : Program} {w : World} {B : Nat} {e t : TypeId} {A : Option Addr} {n c : Nat} {xs : List α} {zero : α} {bytes : Nat}
  {ops : Array Oper} {rest : List Oper} {o : Oper} {a : Act} {K : Act → World → Prop} {Q : Exit → Act → World → Prop} {E : Prop}
theorem wpList_pushg (hgd : o.guard = none) (s x : Operand) (ho : o.op = .call { callee := .builtin .append, args := #[s, x], argTypes := #[t, t] })
    (ht : P.underlying t = some (.slice e)) (hi : (P.info? e).map (fun i => (i.zero, i.size, i.bytes)) = some (some (enc zero), 1, bytes)) (h1 : ∀ x, (enc x).oneCell' = true) (hz : (enc zero).cells.size = 1)
    (hs : a.eval s = .slice A n c) (hown : Own enc w B e A n c xs) (hB : B ≤ w.heap.size) (y : α)
    (hx : a.eval x = .slice (some ⟨w.heap.size, 0, none⟩) 1 1) (hl : n + 1 ≤ maxLen) (hby : (n + 1) * bytes ≤ 140737488355328)
    (h : ∀ A2 c2 w', Own enc w' B e A2 (n + 1) c2 (xs ++ [y]) → Below B w w' → w.grownBy w' (Value.slice A n c).ownBlock → wpList P ops Q rest (a.put o.dst (.slice A2 (n + 1) c2)) w') : wpList P ops Q (o :: rest) a (w.alloc (.cells #[enc y] e)) := by
  refine wpList_plain hgd fun K hK => ?_
  obtain ⟨A2, c2, w', hrun, h2, h3, h4⟩ := run_append_own_one (P := P) o.type ht hi h1 hz hown hB y hl hby
  unfold Oper.wp execOp
  simp only [ho, resolve, invoke, builtin, Sem.run_bind, Sem.run_pure, Result.andThen_ok, List.map_toArray, List.map_cons, List.map_nil, hs, hx, hrun]
  exact hK _ _ (h A2 c2 w' h2 h3 (grownBy.trans' (World.grownBy_alloc w _ _) h4))
end

end Go.Proofs.YtohadkmaemmfgaaGreatDoor.Dic
namespace Go.Proofs.YtohadkmaemmfgaaGreatDoor.Dic
open Go.RowKit Go.Proofs
set_option linter.unusedVariables false
set_option linter.unusedSimpArgs false
section
variable {ws : List (List UInt8)} {x : UInt8}
end

end Go.Proofs.YtohadkmaemmfgaaGreatDoor.Dic
namespace Go.Proofs.YtohadkmaemmfgaaGreatDoor.Dic
open Go.RowKit Go.Proofs Go.Sort
set_option linter.unusedVariables false
set_option linter.unusedSimpArgs false
theorem learnT_any (A : Option Addr) (c m : Nat) (bs : List UInt8) (most : Int) (w : World) (hy : Bytes w A m c bs) (hm : m ≤ 65536) (hmo : -9223372036854775808 ≤ most ∧ most ≤ 9223372036854775807) :
    Calls Tryz.prog 108 #[.slice A m c, .int .i64 most] w (RetStrs w (learnR bs most).1 ((learnR bs most).2 : Nat)) := by
  have Hl := Lib.hid hy.1
  have d65 : decide ((65536 : Int) < (m : Int)) = false := by simp; omega
  by_cases hneg : most < 0
  · have hR : Hid ((learnR bs most).1 = [] ∧ (learnR bs most).2 = 2) := by show _ ∧ _; unfold learnR; rw [if_pos (.inl hneg)]; exact ⟨rfl, rfl⟩
    have d1 : decide (most < 0) = true := by simpa using hneg
    go_enter Tryz.func108, Tryz.ntmps108
    go_wp2_with fail
    go_ret2
    rw [hR.out.1, hR.out.2]
    exact RetStrs.err rfl (Below.refl _ _)
  · have d1 : decide (most < 0) = false := by simpa using hneg
    by_cases hbig : 64 < most
    · have hR : Hid ((learnR bs most).1 = [] ∧ (learnR bs most).2 = 2) := by show _ ∧ _; unfold learnR; rw [if_pos (.inr hbig)]; exact ⟨rfl, rfl⟩
      have d2 : decide (64 < most) = true := by simpa using hbig
      go_enter Tryz.func108, Tryz.ntmps108
      go_wp2_with fail
      go_ret2
      rw [hR.out.1, hR.out.2]
      exact RetStrs.err rfl (Below.refl _ _)
    · have d2 : decide (64 < most) = false := by simpa using hbig
      obtain ⟨mo, hmo'⟩ : ∃ mo : Nat, most = (mo : Int) := ⟨most.toNat, by omega⟩
      subst hmo'
      have hR : Hid ((learnR bs (mo : Int)).1 = learnSel (wordsL bs) mo [] ∧ (learnR bs (mo : Int)).2 = 0) := by show _ ∧ _; unfold learnR; rw [if_neg (by omega)]; exact ⟨rfl, rfl⟩
      have hcal := words_any A c m bs w hy (by omega)
      have Hcal := Lib.hid hcal; clear hcal
      have hwl : (wordsL bs).length ≤ 65536 := by
        have h1 : (wordsL bs).length ≤ _ := wordsTo_le bs (piecesL bs).length
        have h2 := pieces_len bs
        rw [Hl.out] at h2
        omega
      have Hwm : Hid (∀ k, k < (wordsL bs).length → (gs (wordsL bs) k).length ≤ 65536) := fun k hk => by have := words_len hk; rw [Hl.out] at this; omega
      go_enter Tryz.func108, Tryz.ntmps108
      go_wp2_with fail
      refine Hcal.out.mono ?_
      rintro e w1 ⟨A1, n1, c1, rfl, ho1, hb1⟩
      have hs1 := ho1.strs
      have Hn1 := Lib.hid hs1.1
      rw [Hn1.out] at hwl
      obtain ⟨ws, hws⟩ : ∃ ws, ws = wordsL bs := ⟨_, rfl⟩
      rw [← hws] at hs1 Hn1 Hwm hR
      clear Hcal ho1 hws
      have hmo64 : mo ≤ 64 := by omega
      go_wp2_with fail
      go_loopw [7, 8, 9, 10, 11, 12] (fun o _ _ _ _ _ wr => ∃ (j : Nat) (A2 : Option Addr) (c2 : Nat) (out : List (List UInt8)), j ≤ mo ∧ o = .slice A2 j c2 ∧ Own encS wr w1.heap.size 9 A2 j c2 out ∧ Hid (learnSel ws mo [] = learnSel ws (mo - j) out) ∧ Below w1.heap.size w1 wr) (fun o _ _ _ _ _ _ => mo - vLen o)
      case atStart => exact ⟨0, none, 0, [], Nat.zero_le _, rfl, Own.nil _ _ _ _, rfl, Below.refl _ _⟩
      case round =>
        obtain ⟨j, A2, c2, out, hj, rfl, hown, HL, hbel⟩ := hrel
        obtain ⟨wo, hwo⟩ : ∃ wo : World, wo = wr := ⟨_, rfl⟩
        subst hwo
        have hso := hown.strs
        by_cases hlt : j < mo
        · have dj : decide ((j : Int) < (mo : Int)) = true := by simp; omega
          have dj' : decide (j < mo) = true := by simp; omega
          go_wp2_with fail
          go_loopw [8, 9, 10, 11, 12] (fun b g i _ _ wr => ∃ k : Nat, k ≤ n1 ∧ i = .int .i64 (k : Int) ∧ b = .string (strB (bestTo ws out k).1) ∧ g = .int .i64 (bestTo ws out k).2 ∧ Below wo.heap.size wo wr) (fun _ _ i _ _ _ => n1 - (intOf i).toNat)
          case atStart => exact ⟨0, Nat.zero_le _, rfl, rfl, rfl, Below.refl _ _⟩
          case round =>
            obtain ⟨k, hk, rfl, rfl, rfl, hbi⟩ := hrel
            have hb1r : Below w1.heap.size w1 wr := hbel.trans (hbi.mono hbel.size)
            by_cases hkl : k < n1
            · have dk : decide ((k : Int) < (n1 : Int)) = true := by simp; omega
              have dk' : decide (k < n1) = true := by simp; omega
              have hsr := hs1.below hb1r
              have hsor := hso.below hbi
              have hslen := Hwm.out k (by rw [Hn1.out]; exact hkl)
              have hiw := isWord_any (gs ws k) wr (by omega)
              obtain ⟨b4, off4, rfl, hb4, hc4⟩ := hsr.get hkl
              have c4 := hc4 k hkl
              clear hc4
              by_cases hw : isWordB (gs ws k) = true
              · rw [hw] at hiw
                have Hiw := Lib.hid hiw; clear hiw
                go_wp2_with fail
                refine Hiw.out.mono ?_
                rintro e w2 ⟨rfl, hb2⟩
                have hbi2 : Below wo.heap.size wo w2 := hbi.trans (hb2.mono hbi.size)
                have hpl := place_any A2 c2 j out (gs ws k) w2 (hsor.below hb2) (by omega)
                have Hpl := Lib.hid hpl; clear hpl
                have dpl := placeL_ge out (gs ws k)
                by_cases hmem : gs ws k ∈ out
                · rw [decide_eq_true hmem] at dpl
                  have Hnx : Hid (bestTo ws out (k + 1) = bestTo ws out k) := best_next_skip (.inr hmem)
                  clear hw hmem
                  go_wp2_with fail
                  refine Hpl.out.mono ?_
                  rintro e w3 ⟨rfl, hw3⟩
                  obtain rfl : w2 = w3 := hw3.symm
                  go_wp2_with fail
                  go_roundw
                  case rel => exact ⟨k + 1, by omega, by go_num, by rw [Hnx.out], by rw [Hnx.out], hbi2⟩
                  case measure => simp [intOf]; omega
                · rw [decide_eq_false hmem] at dpl
                  have hgc := gain_any (some ⟨b4, off4, none⟩) c1 n1 ws (gs ws k) w2 (hsr.below hb2) (by omega) (by omega)
                  rw [← Hn1.out, gainS_cnt, Hn1.out] at hgc
                  have Hgc := Lib.hid hgc; clear hgc
                  have hless : Op.bytesLess (strB (gs ws k)).toList (strB (bestTo ws out k).1).toList = decide (gs ws k < (bestTo ws out k).1) := by rw [strB_less, bytesLess_eq]
                  by_cases hA : (bestTo ws out k).2 < gainS ws (gs ws k)
                  · have Hnx : Hid (bestTo ws out (k + 1) = (gs ws k, gainS ws (gs ws k))) := best_next_take hw hmem (.inl hA)
                    have dA : decide ((bestTo ws out k).2 < gainS ws (gs ws k)) = true := decide_eq_true hA
                    clear hw hmem hless
                    go_wp2_with (first
                      | (go_at_call 176; refine Hpl.out.mono ?_; rintro e w3 ⟨rfl, hw3⟩; obtain rfl : w2 = w3 := hw3.symm)
                      | (go_at_call 177; refine Hgc.out.mono ?_; rintro e w3 ⟨rfl, hw3⟩; obtain rfl : w2 = w3 := hw3.symm))
                    go_roundw
                    case rel => exact ⟨k + 1, by omega, by go_num, by rw [Hnx.out], by rw [Hnx.out], hbi2⟩
                    case measure => simp [intOf]; omega
                  · have dA : decide ((bestTo ws out k).2 < gainS ws (gs ws k)) = false := decide_eq_false hA
                    by_cases hB : gainS ws (gs ws k) = (bestTo ws out k).2
                    · have dB : (gainS ws (gs ws k) == (bestTo ws out k).2) = true := by rw [hB]; simp
                      by_cases hC : 0 < gainS ws (gs ws k)
                      · have dC : decide (0 < gainS ws (gs ws k)) = true := decide_eq_true hC
                        by_cases hD : gs ws k < (bestTo ws out k).1
                        · have Hnx : Hid (bestTo ws out (k + 1) = (gs ws k, gainS ws (gs ws k))) := best_next_take hw hmem (.inr ⟨hB, hC, hD⟩)
                          rw [decide_eq_true hD] at hless
                          clear hw hmem hA hB hC hD
                          go_wp2_with (first
                            | (go_at_call 176; refine Hpl.out.mono ?_; rintro e w3 ⟨rfl, hw3⟩; obtain rfl : w2 = w3 := hw3.symm)
                            | (go_at_call 177; refine Hgc.out.mono ?_; rintro e w3 ⟨rfl, hw3⟩; obtain rfl : w2 = w3 := hw3.symm))
                          go_roundw
                          case rel => exact ⟨k + 1, by omega, by go_num, by rw [Hnx.out], by rw [Hnx.out], hbi2⟩
                          case measure => simp [intOf]; omega
                        · have Hnx : Hid (bestTo ws out (k + 1) = bestTo ws out k) := best_next_keep hw hmem (fun h => h.elim hA fun h => hD h.2.2)
                          rw [decide_eq_false hD] at hless
                          clear hw hmem hA hB hC hD
                          go_wp2_with (first
                            | (go_at_call 176; refine Hpl.out.mono ?_; rintro e w3 ⟨rfl, hw3⟩; obtain rfl : w2 = w3 := hw3.symm)
                            | (go_at_call 177; refine Hgc.out.mono ?_; rintro e w3 ⟨rfl, hw3⟩; obtain rfl : w2 = w3 := hw3.symm))
                          go_roundw
                          case rel => exact ⟨k + 1, by omega, by go_num, by rw [Hnx.out], by rw [Hnx.out], hbi2⟩
                          case measure => simp [intOf]; omega
                      · have dC : decide (0 < gainS ws (gs ws k)) = false := decide_eq_false hC
                        have Hnx : Hid (bestTo ws out (k + 1) = bestTo ws out k) := best_next_keep hw hmem (fun h => h.elim hA fun h => hC h.2.1)
                        clear hw hmem hA hB hC hless
                        go_wp2_with (first
                          | (go_at_call 176; refine Hpl.out.mono ?_; rintro e w3 ⟨rfl, hw3⟩; obtain rfl : w2 = w3 := hw3.symm)
                          | (go_at_call 177; refine Hgc.out.mono ?_; rintro e w3 ⟨rfl, hw3⟩; obtain rfl : w2 = w3 := hw3.symm))
                        go_roundw
                        case rel => exact ⟨k + 1, by omega, by go_num, by rw [Hnx.out], by rw [Hnx.out], hbi2⟩
                        case measure => simp [intOf]; omega
                    · have dB : (gainS ws (gs ws k) == (bestTo ws out k).2) = false := by simpa using hB
                      have Hnx : Hid (bestTo ws out (k + 1) = bestTo ws out k) := best_next_keep hw hmem (fun h => h.elim hA fun h => hB h.1)
                      clear hw hmem hA hB hless
                      go_wp2_with (first
                        | (go_at_call 176; refine Hpl.out.mono ?_; rintro e w3 ⟨rfl, hw3⟩; obtain rfl : w2 = w3 := hw3.symm)
                        | (go_at_call 177; refine Hgc.out.mono ?_; rintro e w3 ⟨rfl, hw3⟩; obtain rfl : w2 = w3 := hw3.symm))
                      go_roundw
                      case rel => exact ⟨k + 1, by omega, by go_num, by rw [Hnx.out], by rw [Hnx.out], hbi2⟩
                      case measure => simp [intOf]; omega
              · have hw' : isWordB (gs ws k) = false := by simpa using hw
                rw [hw'] at hiw
                have Hiw := Lib.hid hiw; clear hiw
                have Hnx : Hid (bestTo ws out (k + 1) = bestTo ws out k) := best_next_skip (.inl hw')
                clear hw hw'
                go_wp2_with fail
                refine Hiw.out.mono ?_
                rintro e w2 ⟨rfl, hb2⟩
                have hbi2 : Below wo.heap.size wo w2 := hbi.trans (hb2.mono hbi.size)
                go_wp2_with fail
                go_roundw
                case rel => exact ⟨k + 1, by omega, by go_num, by rw [Hnx.out], by rw [Hnx.out], hbi2⟩
                case measure => simp [intOf]; omega
            · have dk : decide ((k : Int) < (n1 : Int)) = false := by simp; omega
              have dk' : decide (k < n1) = false := by simp; omega
              have hkn : k = ws.length := by have := Hn1.out; omega
              have hsel : learnSel ws (mo - j) out = if (bestTo ws out k).2 ≤ 0 then out else learnSel ws (mo - (j + 1)) (out ++ [(bestTo ws out k).1]) := by
                rw [show mo - j = (mo - (j + 1)) + 1 by omega, learnSel, hkn]
              clear hkn
              obtain ⟨B, hB⟩ : ∃ B, B = bestTo ws out k := ⟨_, rfl⟩
              rw [← hB] at hsel ⊢
              clear hB
              by_cases hg : B.2 ≤ 0
              · rw [if_pos hg] at hsel
                have dg : decide (B.2 ≤ 0) = true := by simpa using hg
                have Hsel := Lib.hid hsel; clear hsel
                go_wp2_with fail
                go_ret2
                rw [hR.out.1, hR.out.2, HL.out, Hsel.out]
                exact RetStrs.mk rfl (hso.below hbi) (hb1.trans (hb1r.mono hb1.size))
              · rw [if_neg hg] at hsel
                have dg : decide (B.2 ≤ 0) = false := by simpa using hg
                have HL2 : Hid (learnSel ws mo [] = learnSel ws (mo - (j + 1)) (out ++ [B.1])) := by show _ = _; rw [HL.out, hsel]
                clear hsel
                have m1 : Hid (j + 1 ≤ maxLen ∧ (j + 1) * 16 ≤ 140737488355328) := ⟨by simp [maxLen]; omega, by omega⟩
                have hownr := hown.below hbi
                have hBr : Hid (w1.heap.size ≤ wr.heap.size) := hb1r.size
                go_wp2_with (at_builtin; refine wpList_push (enc := encS) rfl (.tmp 72) (.tmp 74) rfl uSS infoS encS_one rfl rfl hownr hBr.out B.1 rfl m1.out.1 m1.out.2 ?_; intro A6 c6 W6 ho6 hb6)
                go_roundw
                case rel => exact ⟨j + 1, A6, c6, _, by omega, rfl, ho6, HL2, hb1r.trans hb6⟩
                case measure => simp [vLen]; omega
        · have dj : decide ((j : Int) < (mo : Int)) = false := by simp; omega
          have dj' : decide (j < mo) = false := by simp; omega
          have HL2 : Hid (learnSel ws mo [] = out) := by show _ = _; rw [HL.out, show mo - j = 0 by omega]; rfl
          go_wp2_with fail
          go_ret2
          rw [hR.out.1, hR.out.2, HL2.out]
          exact RetStrs.mk rfl hso (hb1.trans (hbel.mono hb1.size))
theorem codeT_any (A A' : Option Addr) (c c' n m : Nat) (ss : List (List UInt8)) (bs : List UInt8) (w : World) (hx : Strs w A n c ss) (hy : Bytes w A' m c' bs) (hn : n ≤ 1000000000) (hl : ∀ s ∈ ss, s.length ≤ 1000000000) (hm : m ≤ 65536) :
    Calls Tryz.prog 109 #[.slice A n c, .slice A' m c'] w (RetBytes w (codeQ ss bs).1 ((codeQ ss bs).2 : Nat)) := by
  have Hl := Lib.hid hy.1
  have hcal := checkR_any A c n ss w hx hn hl
  by_cases hc : checkL ss = 0
  · rw [hc] at hcal
    have Hcal := Lib.hid hcal; clear hcal
    obtain ⟨hs64, hsw, hnd⟩ := checkL_zero.1 hc
    have hR : Hid (codeQ ss bs = if 65536 < (codeL ss bs).length then ([], 5) else (codeL ss bs, 0)) := by show _ = _; unfold codeQ codeR; rw [if_pos hc]; simp only [true_and]
    have HS := Lib.hid hsw; clear hsw hc
    have HN := Lib.hid hnd; clear hnd
    have HL := Lib.hid hl; clear hl
    have d65 : decide ((65536 : Int) < (m : Int)) = false := by simp; omega
    go_enter Tryz.func109, Tryz.ntmps109
    go_wp2_with fail
    refine Hcal.out.mono ?_
    rintro e w1 ⟨rfl, hb1⟩
    have hx1 := hx.below hb1
    have hy1 := hy.below hb1
    clear hx hy Hcal
    go_wp2_with fail
    go_loopw [7, 8] (fun o i wr => ∃ (k : Nat) (A2 : Option Addr) (n2 c2 : Nat), k ≤ (piecesL bs).length ∧ i = .int .i64 ((stP bs k : Nat) : Int) ∧ o = .slice A2 n2 c2 ∧ Own encB wr w1.heap.size 5 A2 n2 c2 (codeTo ss bs k) ∧ Below w1.heap.size w1 wr) (fun _ i _ => m - (intOf i).toNat)
    case atStart => exact ⟨0, none, 0, 0, Nat.zero_le _, rfl, rfl, Own.nil _ _ _ _, Below.refl _ _⟩
    case round =>
      obtain ⟨k, A2, n2, c2, hk, rfl, rfl, hown, hbel⟩ := hrel
      have hst := (pieces_at hk).1
      rw [Hl.out] at hst
      by_cases hlt : stP bs k < m
      · have hk' := pieces_more hk (by rw [Hl.out]; exact hlt)
        have d0 : decide (((stP bs k : Nat) : Int) < (m : Int)) = true := by simp; omega
        have d0' : decide (stP bs k < m) = true := by simp; omega
        have hxr := hx1.below hbel
        have hyr := hy1.below hbel
        have hcal := run_any _ _ _ (stP bs k) _ _ hyr (by omega) (by omega)
        have Hcal := Lib.hid hcal; clear hcal
        have hnext : stP bs (k + 1) = stP bs k + plen (bs.drop (stP bs k)) := rfl
        have hrl := runL_le (bs.drop (stP bs k))
        rw [List.length_drop, Hl.out] at hrl
        have hw : codeTo ss bs (k + 1) = codeTo ss bs k ++ codeP ss (pcP bs k) := rfl
        have hkind := pcP_kind hk'
        have hpne := pcP_ne hk'
        have hgb0 := pcP_gb (bs := bs) (k := k) (i := 0) (by have := plen_pos (bs.drop (stP bs k)); omega)
        unfold wdP at hkind
        have hpc : pcP bs k = (bs.drop (stP bs k)).take (plen (bs.drop (stP bs k))) := rfl
        obtain ⟨r, hr⟩ : ∃ r, r = runL (bs.drop (stP bs k)) := ⟨_, rfl⟩
        unfold plen at hnext hpc
        rw [← hr] at Hcal hnext hrl hkind hpc
        obtain ⟨st, hst'⟩ : ∃ st, st = stP bs k := ⟨_, rfl⟩
        have hcl := codeTo_len (ws := ss) hk
        rw [← hst'] at Hcal hnext hrl hst hlt d0 d0' hcl hpc hgb0 ⊢
        clear hr hst'
        have hn2 := hown.length
        rw [hn2] at hcl
        have Hn2 := Lib.hid hn2; clear hn2
        rcases Nat.eq_zero_or_pos r with h0 | h0
        · have hn1 : Hid (stP bs (k + 1) = st + 1) := by show _ = _; rw [hnext, h0]; rfl
          have hbyte : ∃ b, pcP bs k = [b] := by
            rcases hkind with ⟨h, -⟩ | ⟨-, b, hb, -⟩
            · rw [h0] at h; simp at h
            · exact ⟨b, hb⟩
          obtain ⟨b, hb⟩ := hbyte
          rw [hb, codeP_byte HS.out] at hw
          rw [hb] at hgb0
          have hgb : (b.toNat : Int) = gb bs st := by simpa [gb] using hgb0
          have d1 : (((st + r : Nat) : Int) == (st : Int)) = true := by simp; omega
          have d1' : ((st : Int) + (r : Int) == (st : Int)) = true := by simp; omega
          clear hnext hkind hpc hgb0 hpne hb h0
          obtain ⟨bb, off, rfl, hbk, hcell⟩ := hyr.get hlt
          have c1 := hcell st hlt
          clear hcell
          have m1 : Hid (n2 + 1 ≤ maxLen ∧ (n2 + 1) * 1 ≤ 140737488355328) := ⟨by simp [maxLen]; omega, by omega⟩
          have m2 : Hid (n2 + 1 + 1 ≤ maxLen ∧ (n2 + 1 + 1) * 1 ≤ 140737488355328) := ⟨by simp [maxLen]; omega, by omega⟩
          by_cases h128 : 128 ≤ (b.toNat : Int)
          · rw [if_pos h128] at hw
            have Hw := Lib.hid hw; clear hw
            have d2 : decide ((128 : Int) ≤ gb bs st) = true := by rw [← hgb]; simpa using h128
            have Hgb : Hid (encB b = .int .u8 (gb bs st)) := by show _ = _; unfold encB; rw [hgb]
            clear hgb h128
            go_wp2_with (first
              | (go_at_call 178; refine Hcal.out.mono ?_; rintro e w2 ⟨rfl, hw2⟩; obtain rfl : wr = w2 := hw2.symm)
              | (at_builtin; refine wpList_pushv (enc := encB) rfl (.tmp 34) (.tmp 35) rfl uB infoB encB_one rfl rfl hown hbel.size (255 : UInt8) _ rfl rfl m1.out.1 m1.out.2 ?_; intro A6 c6 W6 ho6 hb6; have c2 := (hy1.below (hbel.trans hb6)).cell hlt)
              | (at_builtin; refine wpList_pushv (enc := encB) rfl (.tmp 37) (.tmp 42) rfl uB infoB encB_one rfl rfl ho6 (Nat.le_trans hbel.size hb6.size) b _ Hgb.out rfl m2.out.1 m2.out.2 ?_; intro A7 c7 W7 ho7 hb7))
            go_roundw
            case rel => exact ⟨k + 1, A7, n2 + 1 + 1, c7, hk', by rw [hn1.out]; go_num, rfl, by rw [Hw.out]; simpa using ho7, hbel.trans (hb6.trans hb7)⟩
            case measure => simp [intOf]; omega
          · rw [if_neg h128] at hw
            have Hw := Lib.hid hw; clear hw
            have d2 : decide ((128 : Int) ≤ gb bs st) = false := by rw [← hgb]; simpa using h128
            have Hgb : Hid (encB b = .int .u8 (gb bs st)) := by show _ = _; unfold encB; rw [hgb]
            clear hgb h128
            go_wp2_with (first
              | (go_at_call 178; refine Hcal.out.mono ?_; rintro e w2 ⟨rfl, hw2⟩; obtain rfl : wr = w2 := hw2.symm)
              | (at_builtin; refine wpList_pushv (enc := encB) rfl (.tmp 37) (.tmp 42) rfl uB infoB encB_one rfl rfl hown hbel.size b _ Hgb.out rfl m1.out.1 m1.out.2 ?_; intro A6 c6 W6 ho6 hb6))
            go_roundw
            case rel => exact ⟨k + 1, A6, n2 + 1, c6, hk', by rw [hn1.out]; go_num, rfl, by rw [Hw.out]; exact ho6, hbel.trans hb6⟩
            case measure => simp [intOf]; omega
        · have hn1 : Hid (stP bs (k + 1) = st + r) := by show _ = _; rw [hnext, show max r 1 = r by omega]
          have hwd : runL (pcP bs k) = (pcP bs k).length := by
            rcases hkind with ⟨-, h⟩ | ⟨h, -⟩
            · exact h
            · simp at h; omega
          rw [codeP_word hwd hpne] at hw
          have d1 : (((st + r : Nat) : Int) == (st : Int)) = false := by simp; omega
          have d1' : ((st : Int) + (r : Int) == (st : Int)) = false := by simp; omega
          obtain ⟨A4, r4, v4⟩ := hyr.cut_lh tB eB sB (st : Int) ((st : Int) + (r : Int)) (by omega) (by omega) (by omega)
          rw [Int.toNat_natCast, show ((st : Int) + (r : Int)).toNat - st = r by omega] at r4 v4
          have s4 := v4.str 23 5 9 uB Go.Proofs.YtohadkmaemmfgaaGreatDoor.Dic.u8 uS
          rw [show max r 1 = r by omega] at hpc
          rw [← hpc] at s4 v4
          have hpcal := place_any A c n ss (pcP bs k) wr hxr (by omega)
          have Hpl := Lib.hid hpcal; clear hpcal
          clear hnext hkind hpc hgb0 hpne hwd
          have dpl := placeL_ge ss (pcP bs k)
          have m1 : Hid (n2 + 1 ≤ maxLen ∧ (n2 + 1) * 1 ≤ 140737488355328) := ⟨by simp [maxLen]; omega, by omega⟩
          have m2 : Hid (n2 + r ≤ maxLen ∧ (n2 + r) * 1 ≤ 140737488355328) := ⟨by simp [maxLen]; omega, by omega⟩
          by_cases hmem : pcP bs k ∈ ss
          · rw [if_pos hmem] at hw
            have Hw := Lib.hid hw; clear hw
            rw [decide_eq_true hmem] at dpl
            have hidx : ss.idxOf (pcP bs k) < ss.length := List.idxOf_lt_length_iff.2 hmem
            have hpv : placeL ss (pcP bs k) = (ss.idxOf (pcP bs k) : Int) := by unfold placeL; rw [if_pos hidx]
            rw [hpv] at Hpl dpl
            have Hbv : Hid (encB (UInt8.ofNat (128 + ss.idxOf (pcP bs k))) = .int .u8 (128 + (ss.idxOf (pcP bs k) : Int))) := by
              show _ = _
              unfold encB
              rw [UInt8.toNat_ofNat', Nat.mod_eq_of_lt (by omega)]
              simp
            have hi64 : ss.idxOf (pcP bs k) < 64 := by omega
            clear hpv hmem hidx hs64
            obtain ⟨ix, hix⟩ : ∃ ix, ix = ss.idxOf (pcP bs k) := ⟨_, rfl⟩
            rw [← hix] at Hpl dpl Hbv Hw hi64
            clear hix
            go_wp2_with (first
              | (go_at_call 178; refine Hcal.out.mono ?_; rintro e w2 ⟨rfl, hw2⟩; obtain rfl : wr = w2 := hw2.symm)
              | (go_at_call 176; refine Hpl.out.mono ?_; rintro e w2 ⟨rfl, hw2⟩; obtain rfl : wr = w2 := hw2.symm)
              | (at_builtin; refine wpList_pushv (enc := encB) rfl (.tmp 55) (.tmp 59) rfl uB infoB encB_one rfl rfl hown hbel.size (UInt8.ofNat (128 + ix)) _ Hbv.out rfl m1.out.1 m1.out.2 ?_; intro A6 c6 W6 ho6 hb6))
            go_roundw
            case rel => exact ⟨k + 1, A6, n2 + 1, c6, hk', by rw [hn1.out]; go_num, rfl, by rw [Hw.out]; exact ho6, hbel.trans hb6⟩
            case measure => simp [intOf]; omega
          · rw [if_neg hmem] at hw
            have Hw := Lib.hid hw; clear hw
            rw [decide_eq_false hmem] at dpl
            clear hmem
            have hv4 := v4.1
            have Hv4 := Lib.hid hv4; clear hv4
            go_wp2_with (first
              | (go_at_call 178; refine Hcal.out.mono ?_; rintro e w2 ⟨rfl, hw2⟩; obtain rfl : wr = w2 := hw2.symm)
              | (go_at_call 176; refine Hpl.out.mono ?_; rintro e w2 ⟨rfl, hw2⟩; obtain rfl : wr = w2 := hw2.symm)
              | (at_builtin; refine wpList_app (enc := encB) rfl (.tmp 61) (.tmp 65) rfl uB infoB encB_one rfl rfl hown hbel.size A4 r _ (pcP bs k) 0 Hv4.out v4.2.2 rfl m2.out.1 m2.out.2 ?_; intro A6 c6 W6 ho6 hb6 hg6))
            go_roundw
            case rel => exact ⟨k + 1, A6, n2 + r, c6, hk', by rw [hn1.out]; go_num, rfl, by rw [Hw.out]; exact ho6, hbel.trans hb6⟩
            case measure => simp [intOf]; omega
      · have hkl : k = (piecesL bs).length := by
          rcases Nat.lt_or_ge k (piecesL bs).length with h | h
          · have := pieces_ne h
            rw [ne_eq, List.drop_eq_nil_iff, Hl.out] at this
            omega
          · omega
        have hwl : Hid (codeL ss bs = codeTo ss bs k) := by show _ = _; unfold codeL; rw [hkl]
        have hcl := codeTo_len (ws := ss) hk
        rw [hown.length] at hcl
        have hll : (codeL ss bs).length = n2 := by rw [hwl.out]; exact hown.length
        clear hkl
        have d0 : decide (((stP bs k : Nat) : Int) < (m : Int)) = false := by simp; omega
        have d0' : decide (stP bs k < m) = false := by simp; omega
        by_cases hb6 : 65536 < n2
        · have d1 : decide ((65536 : Int) < (n2 : Int)) = true := by simp; omega
          have d1' : decide (65536 < n2) = true := by simp; omega
          have HB6 : Hid (codeQ ss bs = ([], 5)) := by show _ = _; rw [hR.out, hll, if_pos hb6]
          clear hll hb6
          go_wp2_with fail
          go_ret2
          rw [HB6.out]
          exact RetBytes.err rfl (hb1.trans (hbel.mono hb1.size))
        · have d1 : decide ((65536 : Int) < (n2 : Int)) = false := by simp; omega
          have d1' : decide (65536 < n2) = false := by simp; omega
          have HB6 : Hid (codeQ ss bs = (codeL ss bs, 0)) := by show _ = _; rw [hR.out, hll, if_neg hb6]
          clear hll hb6
          go_wp2_with fail
          go_ret2
          rw [HB6.out, hwl.out]
          exact RetBytes.mk rfl hown.bytesBDic (hb1.trans (hbel.mono hb1.size))
  · rw [show ((checkL ss : Nat) : Int) = _ from rfl] at hcal
    have Hcal := Lib.hid hcal; clear hcal
    have hR : Hid ((codeQ ss bs).1 = [] ∧ (codeQ ss bs).2 = checkL ss) := by show _ ∧ _; unfold codeQ codeR; rw [if_neg hc]; rw [if_neg (fun h => hc h.1)]; exact ⟨rfl, rfl⟩
    have d0 : (((checkL ss : Nat) : Int) != 0) = true := by simp; exact hc
    clear hc
    go_enter Tryz.func109, Tryz.ntmps109
    go_wp2_with fail
    refine Hcal.out.mono ?_
    rintro e w1 ⟨rfl, hb1⟩
    go_wp2_with fail
    go_ret2
    rw [hR.out.1, hR.out.2]
    exact RetBytes.err rfl hb1
theorem learnLong_any (A : Option Addr) (c m : Nat) (most : Int) (w : World) (hm : 65536 < m) (hmo : -9223372036854775808 ≤ most ∧ most ≤ 9223372036854775807) :
    Calls Tryz.prog 108 #[.slice A m c, .int .i64 most] w fun e w' => e = .returned (.tuple #[.slice none 0 0, .int .i64 5]) ∧ w' = w := by
  have d65 : decide ((65536 : Int) < (m : Int)) = true := by simp; omega
  have d65' : decide (65536 < m) = true := by simp; omega
  clear hm
  go_enter Tryz.func108, Tryz.ntmps108
  go_wp2_with fail
  go_ret2
  exact ⟨rfl, rfl⟩
theorem forwardT_any (A : Option Addr) (c m : Nat) (bs : List UInt8) (w : World) (hy : Bytes w A m c bs) (hm : m ≤ 1000000) :
    Calls Tryz.prog 54 #[.slice A m c] w (RetBytes w (forwardQ bs).1 ((forwardQ bs).2 : Nat)) := by
  have Hl := Lib.hid hy.1
  by_cases hm6 : 65536 < m
  · have hQ : Hid (forwardQ bs = ([], 5)) := by show _ = _; unfold forwardQ; rw [if_pos (by rw [Hl.out]; exact hm6)]
    have HL := Lib.hid (learnLong_any A c m 64 w hm6 (by omega))
    rw [hQ.out]
    clear hm6 hm hy
    go_enter Tryz.func54, Tryz.ntmps54
    go_wp2_with fail
    refine HL.out.mono ?_
    rintro e w1 ⟨rfl, hw1⟩
    obtain rfl : w = w1 := hw1.symm
    go_wp2_with fail
    go_ret2
    exact RetBytes.err rfl (Below.refl _ _)
  have hQ : Hid (forwardQ bs = if 65536 < (codeL (learnL bs 64) bs).length then ([], 5) else if 65536 < (forwardL bs).length then ([], 5) else (forwardL bs, 0)) := by show _ = _; unfold forwardQ; rw [if_neg (by rw [Hl.out]; exact hm6)]
  have hm : m ≤ 65536 := by omega
  clear hm6
  have hcal := learnT_any A c m bs 64 w hy hm (by omega)
  have hck := learn_check bs (most := 64) (by omega)
  obtain ⟨hwl, hww, hwn⟩ := checkL_zero.1 hck
  have hlr : learnR bs 64 = (learnL bs 64, 0) := by unfold learnR; rw [if_neg (by omega)]; rfl
  rw [hlr] at hcal
  have Hcal := Lib.hid hcal; clear hcal hlr
  have hF : Hid (forwardL bs = UInt8.ofNat (learnL bs 64).length :: textsL (learnL bs 64) ++ codeL (learnL bs 64) bs) := rfl
  obtain ⟨ws, hws⟩ : ∃ ws, ws = learnL bs 64 := ⟨_, rfl⟩
  rw [← hws] at Hcal hF hck hwl hww hQ
  clear hws hwn
  have Hck := Lib.hid hck; clear hck
  have Hww := Lib.hid hww; clear hww
  go_enter Tryz.func54, Tryz.ntmps54
  go_wp2_with fail
  refine Hcal.out.mono ?_
  rintro e w1 ⟨A1, n1, c1, rfl, hs1, hb1⟩
  have Hn1 := Lib.hid hs1.1
  rw [Hn1.out] at hwl
  have hcc := codeT_any A1 A c1 c n1 m ws bs w1 hs1 (hy.below hb1) (by omega) (fun s hs => by have := word_le (Hww.out s hs); omega) hm
  have hcr : codeQ ws bs = if 65536 < (codeL ws bs).length then ([], 5) else (codeL ws bs, 0) := by unfold codeQ codeR; rw [if_pos Hck.out]; simp only [true_and]
  by_cases hlc : 65536 < (codeL ws bs).length
  · have hQ2 : Hid (forwardQ bs = ([], 5)) := by show _ = _; rw [hQ.out, if_pos hlc]
    rw [if_pos hlc] at hcr
    rw [hcr] at hcc
    have Hcc := Lib.hid hcc; clear hcc hcr Hcal hlc hQ
    go_wp2_with fail
    refine Hcc.out.mono ?_
    rintro e w2 ⟨A2, n2, c2, rfl, hx2, hb2⟩
    have HB2 := Lib.hid (hb1.trans (hb2.mono hb1.size))
    clear hx2 hb2
    go_wp2_with fail
    go_ret2
    rw [hQ2.out]
    exact RetBytes.err rfl HB2.out
  have hQ3 : Hid (forwardQ bs = if 65536 < (forwardL bs).length then ([], 5) else (forwardL bs, 0)) := by show _ = _; rw [hQ.out, if_neg hlc]
  have hlc' : (codeL ws bs).length ≤ 65536 := by omega
  rw [if_neg hlc] at hcr
  rw [hcr] at hcc
  clear hlc
  have Hcc := Lib.hid hcc; clear hcc hcr Hcal
  go_wp2_with fail
  refine Hcc.out.mono ?_
  rintro e w2 ⟨A2, n2, c2, rfl, hx2, hb2⟩
  have hs2 := hs1.below hb2
  have hn2 : n2 ≤ 65536 := by rw [← hx2.1]; exact hlc'
  clear hlc'
  have hpi := Lib.hid (putIntR_small none 0 0 [] n1 w2 (Bytes.nil w2 0) (by omega) (by omega))
  clear Hcc hs1
  go_wp2_with fail
  refine hpi.out.mono ?_
  rintro e w3 ⟨A3, n3, c3, rfl, ho3, hb3⟩
  rw [List.nil_append] at ho3
  have hn3 : n3 ≤ 1 := by rw [← ho3.length]; simp
  clear hpi
  have hb13 : Below w2.heap.size w2 w3 := hb3
  go_wp2_with fail
  go_loopw [7, 8] (fun o i wr => ∃ (k : Nat) (A4 : Option Addr) (n4 c4 : Nat) (B4 : Nat), k ≤ n1 ∧ i = .int .i64 (k : Int) ∧ o = .slice A4 n4 c4 ∧ n4 ≤ 1 + 33 * k ∧ w2.heap.size ≤ B4 ∧ B4 ≤ wr.heap.size ∧ Own encB wr B4 5 A4 n4 c4 (UInt8.ofNat n1 :: textsL (ws.take k)) ∧ Below w2.heap.size w2 wr) (fun _ i _ => n1 - (intOf i).toNat)
  case atStart => exact ⟨0, A3, n3, c3, w2.heap.size, Nat.zero_le _, rfl, rfl, by omega, Nat.le_refl _, hb3.size, ho3, hb3⟩
  case round =>
    obtain ⟨k, A4, n4, c4, B4, hk, rfl, rfl, hn4, hB4, hB4', ho4, hb4⟩ := hrel
    by_cases hlt : k < n1
    · have dk : decide ((k : Int) < (n1 : Int)) = true := by simp; omega
      have dk' : decide (k < n1) = true := by simp; omega
      have hkl : k < ws.length := by rw [Hn1.out]; exact hlt
      obtain ⟨b5, off5, rfl, hb5, hc5⟩ := (hs2.below hb4).get hlt
      have c5 := hc5 k hlt
      clear hc5
      have hwk : (gs ws k).length ≤ 32 := by rw [gs_get hkl]; exact word_le (Hww.out _ (List.getElem_mem hkl))
      have hnx : Hid (textsL (ws.take (k + 1)) = textsL (ws.take k) ++ (UInt8.ofNat (gs ws k).length :: gs ws k)) := by
        show _ = _
        rw [List.take_succ_eq_append_getElem hkl, textsL_append, ← gs_get hkl]
        simp [textsL]
      have hpt := Lib.hid (putTextR_small A4 n4 c4 _ (gs ws k) wr ho4.bytesBDic (by omega) (by omega))
      have hlen4 := Lib.hid ho4.length
      go_wp2_with fail
      refine hpt.out.mono ?_
      rintro e w6 ⟨A6, n6, c6, rfl, ho6, hb6⟩
      have hn6 : Hid (n6 ≤ n4 + 33) := by
        show _ ≤ _
        have h1 := ho6.length
        rw [List.length_append, hlen4.out] at h1
        simp at h1
        omega
      go_wp2_with fail
      go_roundw
      case rel => exact ⟨k + 1, A6, n6, c6, wr.heap.size, by omega, by go_num, rfl, by have := hn6.out; omega, hb4.size, hb6.size, by rw [hnx.out]; simpa using ho6, hb4.trans (hb6.mono hb4.size)⟩
      case measure => simp [intOf]; omega
    · have dk : decide ((k : Int) < (n1 : Int)) = false := by simp; omega
      have dk' : decide (k < n1) = false := by simp; omega
      have hnx : Hid (ws.take k = ws) := List.take_of_length_le (by rw [Hn1.out]; omega)
      have hx4 := hx2.below hb4
      have m1 : Hid (n4 + n2 ≤ maxLen ∧ (n4 + n2) * 1 ≤ 140737488355328) := ⟨by simp [maxLen]; omega, by omega⟩
      have hFl : (forwardL bs).length = n4 + n2 := by
        rw [hF.out]
        have h1 := ho4.length
        rw [hnx.out, List.length_cons] at h1
        rw [List.length_append, List.length_cons, hx4.1]
        omega
      have HxL := Lib.hid hx4.1
      have hB4h := Lib.hid hB4'
      by_cases h65 : 65536 < n4 + n2
      · have hQ4 : Hid (forwardQ bs = ([], 5)) := by show _ = _; rw [hQ3.out, hFl, if_pos h65]
        have d65 : decide ((65536 : Int) < ((n4 + n2 : Nat) : Int)) = true := by simp; omega
        have d65' : decide ((65536 : Int) < (n4 : Int) + (n2 : Int)) = true := by simp; omega
        clear hFl h65
        go_wp2_with (at_builtin; refine wpList_app (enc := encB) rfl (.tmp 41) (.tmp 42) rfl uB infoB encB_one rfl rfl ho4 hB4h.out A2 n2 c2 (codeL ws bs) 0 HxL.out hx4.2.2 rfl m1.out.1 m1.out.2 ?_; intro A7 c7 W7 ho7 hb7 hg7)
        go_ret2
        rw [hQ4.out]
        exact RetBytes.err rfl (hb1.trans ((hb2.trans ((hb4.mono hb2.size).trans (hb7.mono (Nat.le_trans hb2.size hB4)))).mono hb1.size))
      · have hQ4 : Hid (forwardQ bs = (UInt8.ofNat n1 :: textsL (ws.take k) ++ codeL ws bs, 0)) := by show _ = _; rw [hQ3.out, hFl, if_neg h65, hF.out, hnx.out, Hn1.out]
        have d65 : decide ((65536 : Int) < ((n4 + n2 : Nat) : Int)) = false := by simp; omega
        have d65' : decide ((65536 : Int) < (n4 : Int) + (n2 : Int)) = false := by simp; omega
        clear hFl h65
        go_wp2_with (at_builtin; refine wpList_app (enc := encB) rfl (.tmp 41) (.tmp 42) rfl uB infoB encB_one rfl rfl ho4 hB4h.out A2 n2 c2 (codeL ws bs) 0 HxL.out hx4.2.2 rfl m1.out.1 m1.out.2 ?_; intro A7 c7 W7 ho7 hb7 hg7)
        go_ret2
        rw [hQ4.out]
        refine RetBytes.mk rfl (Own.bytesBDic ho7) ?_
        exact hb1.trans ((hb2.trans ((hb4.mono hb2.size).trans (hb7.mono (Nat.le_trans hb2.size hB4)))).mono hb1.size)
end Go.Proofs.YtohadkmaemmfgaaGreatDoor.Dic
