/- Uncode of the program. -/
import Derived.Test.YtdebhdopginllaaDh
import Derived.Deep.RegionLaw
namespace Go.Proofs.Ytdebhdopginllaa
open Go.RowKit Go.Proofs
set_option linter.unusedVariables false

def vLen (v : Value) : Nat := match v with
  | .slice _ n _ => n
  | _ => 0
theorem cons_of {w : World} {A : Option Addr} {n c : Nat} {r : List UInt8} (h : Bytes w A n c r) (h0 : 0 < n) : ∃ y r', r = y :: r' ∧ r'.length = n - 1 := by
  have hl := h.1
  cases r with
  | nil => simp at hl; omega
  | cons y r' => exact ⟨y, r', rfl, by simp at hl; omega⟩

theorem Own.drewN {α : Type} {enc : α → Value} {w : World} {B : Nat} {e : TypeId} {A : Option Addr} {n c : Nat} {xs : List α} (h : Own enc w B e A n c xs) (q : Nat) : Own enc (w.drewN q) B e A n c xs := h
theorem Own.drew {α : Type} {enc : α → Value} {w : World} {B : Nat} {e : TypeId} {A : Option Addr} {n c : Nat} {xs : List α} (h : Own enc w B e A n c xs) : Own enc w.drew B e A n c xs := h
section
variable {α : Type} {enc : α → Value} {P : Program} {w : World} {B : Nat} {e t : TypeId} {A : Option Addr} {n c : Nat} {xs : List α} {zero : α} {bytes : Nat}
  {ops : Array Oper} {rest : List Oper} {o : Oper} {a : Act} {K : Act → World → Prop} {Q : Exit → Act → World → Prop} {E : Prop}
theorem step_pushv (hgd : o.guard = none) (s x : Operand) (ho : o.op = .call { callee := .builtin .append, args := #[s, x], argTypes := #[t, t] })
    (ht : P.underlying t = some (.slice e)) (hi : (P.info? e).map (fun i => (i.zero, i.size, i.bytes)) = some (some (enc zero), 1, bytes)) (h1 : ∀ x, (enc x).oneCell' = true) (hz : (enc zero).cells.size = 1)
    (hs : a.eval s = .slice A n c) (hown : Own enc w B e A n c xs) (hB : B ≤ w.heap.size) (y : α) (v : Value) (hv : enc y = v)
    (hx : a.eval x = .slice (some ⟨w.heap.size, 0, none⟩) 1 1) (hl : n + 1 ≤ maxLen) (hby : (n + 1) * bytes ≤ 140737488355328)
    (h : ∀ A2 c2 w', Own enc w' B e A2 (n + 1) c2 (xs ++ [y]) → Below B w w' → K (a.put o.dst (.slice A2 (n + 1) c2)) w') :
    if Region.wanted o (yielded ops a.tmps) = true then Oper.wp P o a (w.alloc (.cells #[v] e)) K Q else E := by
  subst hv
  exact step_push hgd s x ho ht hi h1 hz hs hown hB y hx hl hby h
end

set_option maxRecDepth 100000 in
set_option maxHeartbeats 4000000 in
theorem uncodeP_any (A A' : Option Addr) (c c' n m : Nat) (ss : List (List UInt8)) (bs : List UInt8) (w : World) (hx : Strs w A n c ss) (hy : Bytes w A' m c' bs) (hn : n ≤ 1000000000) (hl : ∀ s ∈ ss, s.length ≤ 1000000000) (hm : m ≤ 2000) :
    Calls Try.prog 15 #[.slice A n c, .slice A' m c'] w (RetBytes w (uncR ss bs).1 ((uncR ss bs).2 : Nat)) := by
  have Hl := Lib.hid hy.1
  have Hn := Lib.hid hx.1
  have hcal := checkP_any A c n ss w hx hn hl
  by_cases hc : checkL ss = 0
  · rw [hc] at hcal
    have Hcal := Lib.hid hcal; clear hcal
    obtain ⟨hs64, hsw, hnd⟩ := checkL_zero.1 hc
    have hR : Hid (uncR ss bs = uncodeL ss bs []) := by show _ = _; unfold uncR; rw [if_pos hc]
    have HS := Lib.hid hsw; clear hsw hc hnd
    have HL := Lib.hid hl; clear hl
    rw [Hn.out] at hs64
    have d65 : decide ((65536 : Int) < (m : Int)) = false := by simp; omega
    go_enter Try.func15, Try.ntmps15
    go_wp2_with fail
    refine Hcal.out.mono ?_
    rintro e w1 ⟨rfl, hw1⟩
    obtain rfl : w = w1 := hw1.symm
    clear Hcal
    go_wp2_with fail
    go_loopw [1, 7, 8] (fun v o _ wr => ∃ (Ab : Option Addr) (nb cb : Nat) (r : List UInt8) (A2 : Option Addr) (n2 c2 : Nat) (out : List UInt8), v = .slice Ab nb cb ∧ Bytes w Ab nb cb r ∧ o = .slice A2 n2 c2 ∧ n2 + 32 * nb ≤ 64000 ∧ Own encB wr w.heap.size 5 A2 n2 c2 out ∧ Hid (uncodeL ss bs [] = uncodeL ss r out) ∧ Below w.heap.size w wr) (fun v _ _ _ => vLen v)
    case atStart => exact ⟨A', m, c', bs, none, 0, 0, [], rfl, hy, rfl, by omega, Own.nil _ _ _ _, by simp [Hid], Below.refl _ _⟩
    case round =>
      obtain ⟨Ab, nb, cb, r, A2, n2, c2, out, rfl, hr, rfl, hn2, hown, HU, hbel⟩ := hrel
      by_cases hlt : 0 < nb
      · have d0 : decide ((0 : Int) < (nb : Int)) = true := by simp; omega
        have d0' : decide (0 < nb) = true := by simp; omega
        obtain ⟨y, r', rfl, hl'⟩ := cons_of hr hlt
        have hU := HU.out
        have hxr := hx.below hbel
        have hcap := hr.2.1
        obtain ⟨A5, r5, v5⟩ := hr.cut_l tB eB sB (1 : Int) (by omega) (by omega)
        rw [show (1 : Int).toNat = 1 from rfl] at r5 v5
        rw [List.drop_one, List.tail_cons] at v5
        have hrr := hr.below hbel
        obtain ⟨bb, off, rfl, hbk, hcell⟩ := hrr.get hlt
        have c1 := hcell 0 hlt
        clear hcell
        have hgb : gb (y :: r') 0 = (y.toNat : Int) := rfl
        have hy256 := y.toNat_lt
        rw [hgb, Nat.add_zero] at c1
        clear hgb
        have Hl' := Lib.hid hl'; clear hl'
        have Hey : Hid (encB y = .int .u8 (y.toNat : Int)) := rfl
        have m1 : Hid (n2 + 1 ≤ maxLen ∧ (n2 + 1) * 1 ≤ 140737488355328) := ⟨by simp [maxLen]; omega, by omega⟩
        have b9 : nb ≤ 2000 := by omega
        by_cases h1 : y.toNat < 128
        · rw [uncodeL_low h1] at hU
          have HU1 := Lib.hid hU; clear hU
          obtain ⟨X, hX⟩ : ∃ X, X = y.toNat := ⟨_, rfl⟩
          rw [← hX] at c1 h1 hy256 Hey
          clear hX
          have d2 : decide ((X : Int) < 128) = true := by simp; omega
          have d2' : decide (X < 128) = true := by simp; omega
          have d3 : decide ((65536 : Int) < ((n2 + 1 : Nat) : Int)) = false := by simp; omega
          have d3' : decide ((65536 : Int) < (n2 : Int) + 1) = false := by simp; omega
          go_wp2_with (at_builtin; refine wpList_pushv (enc := encB) rfl (.tmp 35) (.tmp 37) rfl uB infoB encB_one rfl rfl hown hbel.size y _ Hey.out rfl m1.out.1 m1.out.2 ?_; intro A6 c6 W6 ho6 hb6)
          go_roundw
          case rel => exact ⟨A5, nb - 1, cb - 1, r', A6, n2 + 1, c6, _, rfl, v5, rfl, by omega, ho6, HU1, hbel.trans hb6⟩
          case measure => simp [vLen]; omega
        · by_cases h255 : y.toNat = 255
          · rw [uncodeL_esc h255] at hU
            have HU1 := Lib.hid hU; clear hU
            have hX1 : 255 ≤ y.toNat := by omega
            clear h255 h1
            obtain ⟨X, hX⟩ : ∃ X, X = y.toNat := ⟨_, rfl⟩
            rw [← hX] at c1 hy256 Hey hX1
            clear hX
            have d2 : decide ((X : Int) < 128) = false := by simp; omega
            have d2' : decide (X < 128) = false := by simp; omega
            have d3 : ((X : Int) == 255) = true := by simp; omega
            by_cases hk1 : 1 < nb
            · have d4 : (((nb - 1 : Nat) : Int) == 0) = false := by simp; omega
              have d4' : ((nb : Int) - 1 == 0) = false := by simp; omega
              have d7 : decide ((0 : Int) < ((nb - 1 : Nat) : Int)) = true := by simp; omega
              have d7' : (0 : Int) < ((nb - 1 : Nat) : Int) := by omega
              have d7'' : 0 < nb - 1 := by omega
              obtain ⟨z, r'', hzr, hl''⟩ := cons_of v5 (by omega)
              subst hzr
              have HU2 := HU1.out
              obtain ⟨A7, r7, v7⟩ := v5.cut_l tB eB sB (1 : Int) (by omega) (by omega)
              rw [show (1 : Int).toNat = 1 from rfl] at r7 v7
              rw [List.drop_one, List.tail_cons] at v7
              obtain ⟨b3, off3, rfl, hb3, hc3⟩ := (v5.below hbel).get (k := 0) (by omega)
              have c3 := hc3 0 (by omega)
              have hgb : gb (z :: r'') 0 = (z.toNat : Int) := rfl
              have hz256 := z.toNat_lt
              rw [hgb, Nat.add_zero] at c3
              clear hgb hc3 HU1
              have Hez : Hid (encB z = .int .u8 (z.toNat : Int)) := rfl
              have Hl'' := Lib.hid hl''; clear hl''
              simp only at HU2
              by_cases hz : z.toNat < 128
              · rw [if_pos hz] at HU2
                have HU3 := Lib.hid HU2; clear HU2
                obtain ⟨Z, hZ⟩ : ∃ Z, Z = z.toNat := ⟨_, rfl⟩
                rw [← hZ] at c3 hz256 Hez hz
                clear hZ
                have d5 : decide ((Z : Int) < 128) = true := by simp; omega
                have d5' : decide (Z < 128) = true := by simp; omega
                go_wp2_with fail
                go_ret2
                rw [hR.out, HU3.out]
                exact RetBytes.err rfl hbel
              · rw [if_neg hz] at HU2
                have HU3 := Lib.hid HU2; clear HU2
                obtain ⟨Z, hZ⟩ : ∃ Z, Z = z.toNat := ⟨_, rfl⟩
                rw [← hZ] at c3 hz256 Hez hz
                clear hZ
                have d5 : decide ((Z : Int) < 128) = false := by simp; omega
                have d5' : decide (Z < 128) = false := by simp; omega
                have d6 : decide ((65536 : Int) < ((n2 + 1 : Nat) : Int)) = false := by simp; omega
                have d6' : decide ((65536 : Int) < (n2 : Int) + 1) = false := by simp; omega
                go_wp2_with fail
                go_region_law (first
                  | (refine step_pushv (enc := encB) (bytes := 1) (zero := 0) rfl (.tmp 59) (.tmp 63) rfl uB infoB encB_one rfl rfl (w := wr.drew) hown.drew hbel.size z _ Hez.out rfl m1.out.1 m1.out.2 ?_; intro A6 c6 W6 ho6 hb6))
                all_goals
                  go_wp2_with fail
                  go_roundw
                  case rel => exact ⟨A7, nb - 1 - 1, cb - 1 - 1, r'', A6, n2 + 1, c6, _, rfl, v7, rfl, by omega, ho6, HU3, hbel.trans (((Drawn.drewN wr 1).below _).trans hb6)⟩
                  case measure => simp [vLen]; omega
            · have d4 : (((nb - 1 : Nat) : Int) == 0) = true := by simp; omega
              have d4' : ((nb : Int) - 1 == 0) = true := by simp; omega
              have HU2 : Hid (uncodeL ss bs [] = ([], 9)) := by
                show _ = _
                have : r' = [] := List.length_eq_zero_iff.1 (by rw [Hl'.out]; omega)
                rw [HU1.out, this]
              clear HU1
              go_wp2_with fail
              go_ret2
              rw [hR.out, HU2.out]
              exact RetBytes.err rfl hbel
          · have d3 : ((y.toNat : Int) == 255) = false := by simp; omega
            by_cases hw : y.toNat - 128 < n
            · rw [uncodeL_word (by omega) h255 (by rw [Hn.out]; exact hw)] at hU
              have HU1 := Lib.hid hU; clear hU
              have hwl := word_len HS.out (j := y.toNat - 128) (by rw [Hn.out]; exact hw)
              obtain ⟨b4, off4, rfl, hb4, hc4⟩ := hxr.get hw
              have c4 := hc4 (y.toNat - 128) hw
              clear hc4
              obtain ⟨X, hX⟩ : ∃ X, X = y.toNat := ⟨_, rfl⟩
              rw [← hX] at c1 c4 hy256 Hey h255 h1 hw hwl HU1 d3
              clear hX
              have d2 : decide ((X : Int) < 128) = false := by simp; omega
              have d2' : decide (X < 128) = false := by simp; omega
              have d4 : decide ((n : Int) ≤ (X : Int) - 128) = false := by simp; omega
              have b8 : (X : Int) - 128 < (n : Int) := by omega
              have b0 : 0 ≤ (X : Int) - 128 := by omega
              have d6 : decide ((65536 : Int) < ((n2 + (gs ss (X - 128)).length : Nat) : Int)) = false := by simp; omega
              have d6' : decide ((65536 : Int) < (n2 : Int) + ((gs ss (X - 128)).length : Int)) = false := by simp; omega
              have m2 : Hid (n2 + (gs ss (X - 128)).length ≤ maxLen ∧ n2 + (gs ss (X - 128)).length ≤ 140737488355328) := ⟨by simp [maxLen]; omega, by omega⟩
              have h1' : 128 ≤ X := by omega
              clear h1 h255
              go_wp2_with (at_builtin; refine wpList_apps rfl (.tmp 25) (.tmp 30) rfl uB uS infoB rfl hown hbel.size (gs ss (X - 128)) rfl m2.out.1 m2.out.2 ?_; intro A6 c6 W6 ho6 hb6)
              go_roundw
              case rel => exact ⟨A5, nb - 1, cb - 1, r', A6, n2 + (gs ss (X - 128)).length, c6, _, rfl, v5, rfl, by omega, ho6, HU1, hbel.trans hb6⟩
              case measure => simp [vLen]; omega
            · rw [uncodeL_none (by omega) h255 (by rw [Hn.out]; omega)] at hU
              have HU1 := Lib.hid hU; clear hU
              obtain ⟨X, hX⟩ : ∃ X, X = y.toNat := ⟨_, rfl⟩
              rw [← hX] at c1 hy256 Hey h255 h1 hw d3
              clear hX
              have d2 : decide ((X : Int) < 128) = false := by simp; omega
              have d2' : decide (X < 128) = false := by simp; omega
              have d4 : decide ((n : Int) ≤ (X : Int) - 128) = true := by simp; omega
              have h1' : 128 ≤ X := by omega
              go_wp2_with fail
              go_ret2
              rw [hR.out, HU1.out]
              exact RetBytes.err rfl hbel
      · have HU2 : Hid (uncodeL ss bs [] = (out, 0)) := by
          show _ = _
          have : r = [] := List.length_eq_zero_iff.1 (by rw [hr.1]; omega)
          rw [HU.out, this]
          rfl
        have d0 : decide ((0 : Int) < (nb : Int)) = false := by simp; omega
        have d0' : decide (0 < nb) = false := by simp; omega
        go_wp2_with fail
        go_ret2
        rw [hR.out, HU2.out]
        exact RetBytes.mk rfl hown.bytesB hbel
  · rw [show ((checkL ss : Nat) : Int) = _ from rfl] at hcal
    have Hcal := Lib.hid hcal; clear hcal
    have hR : Hid ((uncR ss bs).1 = [] ∧ (uncR ss bs).2 = checkL ss) := by show _ ∧ _; unfold uncR; rw [if_neg hc]; exact ⟨rfl, rfl⟩
    have d0 : (((checkL ss : Nat) : Int) != 0) = true := by simp; exact hc
    clear hc
    go_enter Try.func15, Try.ntmps15
    go_wp2_with fail
    refine Hcal.out.mono ?_
    rintro e w1 ⟨rfl, hw1⟩
    obtain rfl : w = w1 := hw1.symm
    go_wp2_with fail
    go_ret2
    rw [hR.out.1, hR.out.2]
    exact RetBytes.err rfl (Below.refl _ _)
end Go.Proofs.Ytdebhdopginllaa
