/- Dg Dh Di. -/
import Derived.Test.YtckkmafppfcecaaGreatDoorCN39
import Derived.Lib.AppendStr
import Derived.Deep.RegionLaw
/- Code of the reference; append of a string's bytes. -/
namespace Go.Proofs.YtckkmafppfcecaaGreatDoor.Dic
open Go.RowKit Go.Proofs
set_option linter.unusedVariables false

def encB (b : UInt8) : Value := .int .u8 (b.toNat : Int)
theorem encB_one (s : UInt8) : (encB s).oneCell' = true := rfl
theorem infoB : (Tryz.prog.info? 5).map (fun i => (i.zero, i.size, i.bytes)) = some (some (encB 0), 1, 1) := by kernel_rfl
theorem _root_.Go.Proofs.YtckkmafppfcecaaGreatDoor.Own.bytesBDic {w : World} {B : Nat} {e : TypeId} {A : Option Addr} {n c : Nat} {bs : List UInt8} (h : Own encB w B e A n c bs) : Bytes w A n c bs := ⟨h.length, h.cap, h.cells 0⟩

section
variable {α : Type} {enc : α → Value} {P : Program} {w : World} {B : Nat} {e t : TypeId} {A : Option Addr} {n c : Nat} {xs : List α} {zero : α} {bytes : Nat}
  {ops : Array Oper} {rest : List Oper} {o : Oper} {a : Act} {K : Act → World → Prop} {Q : Exit → Act → World → Prop} {E : Prop}
/-- append(x, y) of one element, whose value is v. -/
theorem wpList_pushv (hgd : o.guard = none) (s x : Operand) (ho : o.op = .call { callee := .builtin .append, args := #[s, x], argTypes := #[t, t] })
    (ht : P.underlying t = some (.slice e)) (hi : (P.info? e).map (fun i => (i.zero, i.size, i.bytes)) = some (some (enc zero), 1, bytes)) (h1 : ∀ x, (enc x).oneCell' = true) (hz : (enc zero).cells.size = 1)
    (hs : a.eval s = .slice A n c) (hown : Own enc w B e A n c xs) (hB : B ≤ w.heap.size) (y : α) (v : Value) (hv : enc y = v)
    (hx : a.eval x = .slice (some ⟨w.heap.size, 0, none⟩) 1 1) (hl : n + 1 ≤ maxLen) (hby : (n + 1) * bytes ≤ 140737488355328)
    (h : ∀ A2 c2 w', Own enc w' B e A2 (n + 1) c2 (xs ++ [y]) → Below B w w' → wpList P ops Q rest (a.put o.dst (.slice A2 (n + 1) c2)) w') : wpList P ops Q (o :: rest) a (w.alloc (.cells #[v] e)) := by
  subst hv
  exact wpList_push hgd s x ho ht hi h1 hz hs hown hB y hx hl hby h
theorem wpList_apps {bs : List UInt8} {u : TypeId} (hgd : o.guard = none) (s x : Operand) (ho : o.op = .call { callee := .builtin .append, args := #[s, x], argTypes := #[t, u] })
    (ht : P.underlying t = some (.slice e)) (hu : P.underlying u = some .string) (hi : (P.info? e).map (fun i => (i.zero, i.size, i.bytes)) = some (some (encB 0), 1, 1))
    (hs : a.eval s = .slice A n c) (hown : Own encB w B e A n c bs) (hB : B ≤ w.heap.size) (ys : List UInt8)
    (hx : a.eval x = .string (strB ys)) (hl : n + ys.length ≤ maxLen) (hby : n + ys.length ≤ 140737488355328)
    (h : ∀ A2 c2 w', Own encB w' B e A2 (n + ys.length) c2 (bs ++ ys) → Below B w w' → wpList P ops Q rest (a.put o.dst (.slice A2 (n + ys.length) c2)) w') : wpList P ops Q (o :: rest) a w := by
  obtain ⟨i, hi0, hz0, hs1, hb1⟩ := info_parts hi
  have hsz := strB_size ys
  refine Lib.wpList_append_own_string (w := w) hgd s x t u ho B e i ht hu hi0 hz0 hs1 hb1 _ n _ hs hown (strB ys) hx (by rw [hsz]; exact hl) (by rw [hsz]; exact hby) hB ?_
  intro v' w' h2 h3 h4
  rw [hsz] at h2
  have hform : ∃ A2 c2, v' = .slice A2 (n + ys.length) c2 := by
    rcases h2.2 with ⟨rfl, h0⟩ | ⟨g, cap, cur, rfl, _⟩
    · exact ⟨none, 0, by rw [h0]⟩
    · exact ⟨_, _, rfl⟩
  obtain ⟨A2, c2, rfl⟩ := hform
  refine h A2 c2 w' ?_ ((Below.refl B w).grown h3 hB (fun k hk => (World.ownsRow.lt hown k hk).1))
  unfold Own
  rw [List.map_append]
  exact h2
end

/-- a result: bytes and a number. -/
def RetBytes (w : World) (bs : List UInt8) (x : Int) (e : Ending) (w' : World) : Prop := ∃ A n c, e = .returned (.tuple #[.slice A n c, .int .i64 x]) ∧ Bytes w' A n c bs ∧ Below w.heap.size w w'
theorem Bytes.nil (w : World) (c : Nat) : Bytes w none 0 c [] := ⟨rfl, Nat.zero_le _, fun h => absurd h (by omega)⟩
theorem RetBytes.mk {w w' : World} {bs : List UInt8} {x x' : Int} {A : Option Addr} {n c : Nat} (hx : x = x') (h : Bytes w' A n c bs) (hb : Below w.heap.size w w') : RetBytes w bs x' (.returned (.tuple #[.slice A n c, .int .i64 x])) w' := by
  subst hx
  exact ⟨A, n, c, rfl, h, hb⟩
theorem RetBytes.err {w w' : World} {x x' : Int} (hx : x = x') (hb : Below w.heap.size w w') : RetBytes w [] x' (.returned (.tuple #[.slice none 0 0, .int .i64 x])) w' := RetBytes.mk hx (Bytes.nil _ _) hb

def codeR (ss : List (List UInt8)) (bs : List UInt8) : List UInt8 × Nat := if checkL ss = 0 then (codeL ss bs, 0) else ([], checkL ss)
theorem checkL_le (ss : List (List UInt8)) : checkL ss ≤ 24 := by
  have h : ∀ k, checkTo ss k ≤ 24 := fun k => by
    induction k with
    | zero => simp [checkTo]
    | succ k ih =>
      rw [checkTo]
      split
      · unfold badAt
        split
        · omega
        · split <;> omega
      · exact ih
  unfold checkL
  split
  · omega
  · exact h _
theorem encB_gb (bs : List UInt8) (k : Nat) : encB (bs.getD k 0) = .int .u8 (gb bs k) := rfl

set_option maxRecDepth 100000 in
set_option maxHeartbeats 2000000 in
theorem codeR_any (A A' : Option Addr) (c c' n m : Nat) (ss : List (List UInt8)) (bs : List UInt8) (w : World) (hx : Strs w A n c ss) (hy : Bytes w A' m c' bs) (hn : n ≤ 1000000000) (hl : ∀ s ∈ ss, s.length ≤ 1000000000) (hm : m ≤ 2000) :
    Calls Tryz.prog 143 #[.slice A n c, .slice A' m c'] w (RetBytes w (codeR ss bs).1 ((codeR ss bs).2 : Nat)) := by
  have Hl := Lib.hid hy.1
  have hcal := checkR_any A c n ss w hx hn hl
  by_cases hc : checkL ss = 0
  · rw [hc] at hcal
    have Hcal := Lib.hid hcal; clear hcal
    obtain ⟨hs64, hsw, hnd⟩ := checkL_zero.1 hc
    have hR : Hid ((codeR ss bs).1 = codeL ss bs ∧ (codeR ss bs).2 = 0) := by show _ ∧ _; unfold codeR; rw [if_pos hc]; exact ⟨rfl, rfl⟩
    have HS := Lib.hid hsw; clear hsw hc
    have HN := Lib.hid hnd; clear hnd
    have HL := Lib.hid hl; clear hl
    have d65 : decide ((65536 : Int) < (m : Int)) = false := by simp; omega
    go_enter Tryz.func143, Tryz.ntmps143
    go_wp2_with fail
    refine Hcal.out.mono ?_
    rintro e w1 ⟨rfl, hb1⟩
    have hx1 := hx.below hb1
    have hy1 := hy.below hb1
    clear hx hy Hcal
    go_wp2_with fail
    go_loopw [7, 8] (fun o i wr => ∃ (k : Nat) (A2 : Option Addr) (n2 c2 : Nat), k ≤ (piecesL bs).length ∧ i = .int .i64 ((stP bs k : Nat) : Int) ∧ o = .slice A2 n2 c2 ∧ Own encB wr w1.heap.size 5 A2 n2 c2 (codeTo ss bs k) ∧ Below w1.heap.size w1 wr) (fun _ i _ => m - (intOf i).toNat)
    case atStart => exact ⟨0, none, 0, 0, Nat.zero_le _, rfl, rfl, Own.nil _ _ _ _, Below.refl _ _⟩
    case round =>
      obtain ⟨k, A2, n2, c2, hk, rfl, rfl, hown, hbel⟩ := hrel
      have hst := (pieces_at hk).1
      rw [Hl.out] at hst
      by_cases hlt : stP bs k < m
      · have hk' := pieces_more hk (by rw [Hl.out]; exact hlt)
        have d0 : decide (((stP bs k : Nat) : Int) < (m : Int)) = true := by simp; omega
        have d0' : decide (stP bs k < m) = true := by simp; omega
        have hxr := hx1.below hbel
        have hyr := hy1.below hbel
        have hcal := run_any _ _ _ (stP bs k) _ _ hyr (by omega) (by omega)
        have Hcal := Lib.hid hcal; clear hcal
        have hnext : stP bs (k + 1) = stP bs k + plen (bs.drop (stP bs k)) := rfl
        have hrl := runL_le (bs.drop (stP bs k))
        rw [List.length_drop, Hl.out] at hrl
        have hw : codeTo ss bs (k + 1) = codeTo ss bs k ++ codeP ss (pcP bs k) := rfl
        have hkind := pcP_kind hk'
        have hpne := pcP_ne hk'
        have hgb0 := pcP_gb (bs := bs) (k := k) (i := 0) (by have := plen_pos (bs.drop (stP bs k)); omega)
        unfold wdP at hkind
        have hpc : pcP bs k = (bs.drop (stP bs k)).take (plen (bs.drop (stP bs k))) := rfl
        obtain ⟨r, hr⟩ : ∃ r, r = runL (bs.drop (stP bs k)) := ⟨_, rfl⟩
        unfold plen at hnext hpc
        rw [← hr] at Hcal hnext hrl hkind hpc
        obtain ⟨st, hst'⟩ : ∃ st, st = stP bs k := ⟨_, rfl⟩
        have hcl := codeTo_len (ws := ss) hk
        rw [← hst'] at Hcal hnext hrl hst hlt d0 d0' hcl hpc hgb0 ⊢
        clear hr hst'
        have hn2 := hown.length
        rw [hn2] at hcl
        have Hn2 := Lib.hid hn2; clear hn2
        rcases Nat.eq_zero_or_pos r with h0 | h0
        · have hn1 : Hid (stP bs (k + 1) = st + 1) := by show _ = _; rw [hnext, h0]; rfl
          have hbyte : ∃ b, pcP bs k = [b] := by
            rcases hkind with ⟨h, -⟩ | ⟨-, b, hb, -⟩
            · rw [h0] at h; simp at h
            · exact ⟨b, hb⟩
          obtain ⟨b, hb⟩ := hbyte
          rw [hb, codeP_byte HS.out] at hw
          rw [hb] at hgb0
          have hgb : (b.toNat : Int) = gb bs st := by simpa [gb] using hgb0
          have d1 : (((st + r : Nat) : Int) == (st : Int)) = true := by simp; omega
          have d1' : ((st : Int) + (r : Int) == (st : Int)) = true := by simp; omega
          clear hnext hkind hpc hgb0 hpne hb h0
          obtain ⟨bb, off, rfl, hbk, hcell⟩ := hyr.get hlt
          have c1 := hcell st hlt
          clear hcell
          have m1 : Hid (n2 + 1 ≤ maxLen ∧ (n2 + 1) * 1 ≤ 140737488355328) := ⟨by simp [maxLen]; omega, by omega⟩
          have m2 : Hid (n2 + 1 + 1 ≤ maxLen ∧ (n2 + 1 + 1) * 1 ≤ 140737488355328) := ⟨by simp [maxLen]; omega, by omega⟩
          by_cases h128 : 128 ≤ (b.toNat : Int)
          · rw [if_pos h128] at hw
            have Hw := Lib.hid hw; clear hw
            have d2 : decide ((128 : Int) ≤ gb bs st) = true := by rw [← hgb]; simpa using h128
            have Hgb : Hid (encB b = .int .u8 (gb bs st)) := by show _ = _; unfold encB; rw [hgb]
            clear hgb h128
            go_wp2_with (first
              | (go_at_call 217; refine Hcal.out.mono ?_; rintro e w2 ⟨rfl, hw2⟩; obtain rfl : wr = w2 := hw2.symm)
              | (at_builtin; refine wpList_pushv (enc := encB) rfl (.tmp 34) (.tmp 35) rfl uB infoB encB_one rfl rfl hown hbel.size (255 : UInt8) _ rfl rfl m1.out.1 m1.out.2 ?_; intro A6 c6 W6 ho6 hb6; have c2 := (hy1.below (hbel.trans hb6)).cell hlt)
              | (at_builtin; refine wpList_pushv (enc := encB) rfl (.tmp 37) (.tmp 42) rfl uB infoB encB_one rfl rfl ho6 (Nat.le_trans hbel.size hb6.size) b _ Hgb.out rfl m2.out.1 m2.out.2 ?_; intro A7 c7 W7 ho7 hb7))
            go_roundw
            case rel => exact ⟨k + 1, A7, n2 + 1 + 1, c7, hk', by rw [hn1.out]; go_num, rfl, by rw [Hw.out]; simpa using ho7, hbel.trans (hb6.trans hb7)⟩
            case measure => simp [intOf]; omega
          · rw [if_neg h128] at hw
            have Hw := Lib.hid hw; clear hw
            have d2 : decide ((128 : Int) ≤ gb bs st) = false := by rw [← hgb]; simpa using h128
            have Hgb : Hid (encB b = .int .u8 (gb bs st)) := by show _ = _; unfold encB; rw [hgb]
            clear hgb h128
            go_wp2_with (first
              | (go_at_call 217; refine Hcal.out.mono ?_; rintro e w2 ⟨rfl, hw2⟩; obtain rfl : wr = w2 := hw2.symm)
              | (at_builtin; refine wpList_pushv (enc := encB) rfl (.tmp 37) (.tmp 42) rfl uB infoB encB_one rfl rfl hown hbel.size b _ Hgb.out rfl m1.out.1 m1.out.2 ?_; intro A6 c6 W6 ho6 hb6))
            go_roundw
            case rel => exact ⟨k + 1, A6, n2 + 1, c6, hk', by rw [hn1.out]; go_num, rfl, by rw [Hw.out]; exact ho6, hbel.trans hb6⟩
            case measure => simp [intOf]; omega
        · have hn1 : Hid (stP bs (k + 1) = st + r) := by show _ = _; rw [hnext, show max r 1 = r by omega]
          have hwd : runL (pcP bs k) = (pcP bs k).length := by
            rcases hkind with ⟨-, h⟩ | ⟨h, -⟩
            · exact h
            · simp at h; omega
          rw [codeP_word hwd hpne] at hw
          have d1 : (((st + r : Nat) : Int) == (st : Int)) = false := by simp; omega
          have d1' : ((st : Int) + (r : Int) == (st : Int)) = false := by simp; omega
          obtain ⟨A4, r4, v4⟩ := hyr.cut_lh tB eB sB (st : Int) ((st : Int) + (r : Int)) (by omega) (by omega) (by omega)
          rw [Int.toNat_natCast, show ((st : Int) + (r : Int)).toNat - st = r by omega] at r4 v4
          have s4 := v4.str 23 5 9 uB Go.Proofs.YtckkmafppfcecaaGreatDoor.Dic.u8 uS
          rw [show max r 1 = r by omega] at hpc
          rw [← hpc] at s4 v4
          have hpcal := place_any A c n ss (pcP bs k) wr hxr (by omega)
          have Hpl := Lib.hid hpcal; clear hpcal
          clear hnext hkind hpc hgb0 hpne hwd
          have dpl := placeL_ge ss (pcP bs k)
          have m1 : Hid (n2 + 1 ≤ maxLen ∧ (n2 + 1) * 1 ≤ 140737488355328) := ⟨by simp [maxLen]; omega, by omega⟩
          have m2 : Hid (n2 + r ≤ maxLen ∧ (n2 + r) * 1 ≤ 140737488355328) := ⟨by simp [maxLen]; omega, by omega⟩
          by_cases hmem : pcP bs k ∈ ss
          · rw [if_pos hmem] at hw
            have Hw := Lib.hid hw; clear hw
            rw [decide_eq_true hmem] at dpl
            have hidx : ss.idxOf (pcP bs k) < ss.length := List.idxOf_lt_length_iff.2 hmem
            have hpv : placeL ss (pcP bs k) = (ss.idxOf (pcP bs k) : Int) := by unfold placeL; rw [if_pos hidx]
            rw [hpv] at Hpl dpl
            have Hbv : Hid (encB (UInt8.ofNat (128 + ss.idxOf (pcP bs k))) = .int .u8 (128 + (ss.idxOf (pcP bs k) : Int))) := by
              show _ = _
              unfold encB
              rw [UInt8.toNat_ofNat', Nat.mod_eq_of_lt (by omega)]
              simp
            have hi64 : ss.idxOf (pcP bs k) < 64 := by omega
            clear hpv hmem hidx hs64
            obtain ⟨ix, hix⟩ : ∃ ix, ix = ss.idxOf (pcP bs k) := ⟨_, rfl⟩
            rw [← hix] at Hpl dpl Hbv Hw hi64
            clear hix
            go_wp2_with (first
              | (go_at_call 217; refine Hcal.out.mono ?_; rintro e w2 ⟨rfl, hw2⟩; obtain rfl : wr = w2 := hw2.symm)
              | (go_at_call 215; refine Hpl.out.mono ?_; rintro e w2 ⟨rfl, hw2⟩; obtain rfl : wr = w2 := hw2.symm)
              | (at_builtin; refine wpList_pushv (enc := encB) rfl (.tmp 55) (.tmp 59) rfl uB infoB encB_one rfl rfl hown hbel.size (UInt8.ofNat (128 + ix)) _ Hbv.out rfl m1.out.1 m1.out.2 ?_; intro A6 c6 W6 ho6 hb6))
            go_roundw
            case rel => exact ⟨k + 1, A6, n2 + 1, c6, hk', by rw [hn1.out]; go_num, rfl, by rw [Hw.out]; exact ho6, hbel.trans hb6⟩
            case measure => simp [intOf]; omega
          · rw [if_neg hmem] at hw
            have Hw := Lib.hid hw; clear hw
            rw [decide_eq_false hmem] at dpl
            clear hmem
            have hv4 := v4.1
            have Hv4 := Lib.hid hv4; clear hv4
            go_wp2_with (first
              | (go_at_call 217; refine Hcal.out.mono ?_; rintro e w2 ⟨rfl, hw2⟩; obtain rfl : wr = w2 := hw2.symm)
              | (go_at_call 215; refine Hpl.out.mono ?_; rintro e w2 ⟨rfl, hw2⟩; obtain rfl : wr = w2 := hw2.symm)
              | (at_builtin; refine wpList_app (enc := encB) rfl (.tmp 61) (.tmp 65) rfl uB infoB encB_one rfl rfl hown hbel.size A4 r _ (pcP bs k) 0 Hv4.out v4.2.2 rfl m2.out.1 m2.out.2 ?_; intro A6 c6 W6 ho6 hb6 hg6))
            go_roundw
            case rel => exact ⟨k + 1, A6, n2 + r, c6, hk', by rw [hn1.out]; go_num, rfl, by rw [Hw.out]; exact ho6, hbel.trans hb6⟩
            case measure => simp [intOf]; omega
      · have hkl : k = (piecesL bs).length := by
          rcases Nat.lt_or_ge k (piecesL bs).length with h | h
          · have := pieces_ne h
            rw [ne_eq, List.drop_eq_nil_iff, Hl.out] at this
            omega
          · omega
        have hwl : Hid (codeL ss bs = codeTo ss bs k) := by show _ = _; unfold codeL; rw [hkl]
        have hcl := codeTo_len (ws := ss) hk
        rw [hown.length] at hcl
        clear hkl
        have d0 : decide (((stP bs k : Nat) : Int) < (m : Int)) = false := by simp; omega
        have d0' : decide (stP bs k < m) = false := by simp; omega
        have d1 : decide ((65536 : Int) < (n2 : Int)) = false := by simp; omega
        have d1' : decide (65536 < n2) = false := by simp; omega
        go_wp2_with fail
        go_ret2
        rw [hR.out.1, hR.out.2, hwl.out]
        exact RetBytes.mk rfl hown.bytesBDic (hb1.trans (hbel.mono hb1.size))
  · rw [show ((checkL ss : Nat) : Int) = _ from rfl] at hcal
    have Hcal := Lib.hid hcal; clear hcal
    have hR : Hid ((codeR ss bs).1 = [] ∧ (codeR ss bs).2 = checkL ss) := by show _ ∧ _; unfold codeR; rw [if_neg hc]; exact ⟨rfl, rfl⟩
    have d0 : (((checkL ss : Nat) : Int) != 0) = true := by simp; exact hc
    clear hc
    go_enter Tryz.func143, Tryz.ntmps143
    go_wp2_with fail
    refine Hcal.out.mono ?_
    rintro e w1 ⟨rfl, hb1⟩
    go_wp2_with fail
    go_ret2
    rw [hR.out.1, hR.out.2]
    exact RetBytes.err rfl hb1
end Go.Proofs.YtckkmafppfcecaaGreatDoor.Dic
/- slices.Contains at strings, Check of the program, Uncode (both). -/
namespace Go.Proofs.YtckkmafppfcecaaGreatDoor.Dic
open Go.RowKit Go.Proofs
set_option linter.unusedVariables false

set_option maxHeartbeats 400000 in
theorem index_any (A : Option Addr) (c n : Nat) (ss : List (List UInt8)) (s : List UInt8) (w : World) (hx : Strs w A n c ss) (hn : n ≤ 1000000000) :
    Calls Tryz.prog 305 #[.slice A n c, .string (strB s)] w fun e w' => e = .returned (.int .i64 (placeL ss s)) ∧ w' = w := by
  have Hl := Lib.hid hx.1
  go_enter Tryz.func305, Tryz.ntmps305
  go_wp2
  go_loop [5, 8] (fun _ i => ∃ k : Nat, k ≤ n ∧ i = .int .i64 k ∧ Hid (∀ j, j < k → gs ss j ≠ s)) (fun _ i => n - (intOf i).toNat)
  case atStart => exact ⟨0, Nat.zero_le _, rfl, fun j hj => absurd hj (by omega)⟩
  case round =>
    obtain ⟨k, hk, rfl, HK⟩ := hrel
    by_cases hlt : k < n
    · obtain ⟨b, off, rfl, hb, hc⟩ := hx.get hlt
      have h1 := hc k hlt
      clear hc
      by_cases he : gs ss k = s
      · have hd : ((strB s).toList == (strB (gs ss k)).toList) = true := by rw [strB_beq]; exact decide_eq_true he.symm
        have hfin : Hid (placeL ss s = k) := placeL_at (by rw [Hl.out]; exact hlt) HK.out he
        clear he
        go_wp2
        go_ret
        exact ⟨ret_int hfin.out.symm, rfl⟩
      · have hd : ((strB s).toList == (strB (gs ss k)).toList) = false := by rw [strB_beq]; exact decide_eq_false (fun h => he h.symm)
        have He := Lib.hid he; clear he
        go_wp2
        go_round
        case rel => exact ⟨k + 1, by omega, by go_num, fun j hj => by
          rcases Nat.lt_succ_iff_lt_or_eq.1 hj with h | h
          · exact HK.out j h
          · subst h; exact He.out⟩
        case measure => simp [intOf]; omega
    · have hfin : Hid (placeL ss s = -1) := placeL_none (fun j hj => HK.out j (by have := Hl.out; omega))
      go_wp2
      go_ret
      exact ⟨ret_int hfin.out.symm, rfl⟩

set_option maxHeartbeats 400000 in
theorem contains_any (A : Option Addr) (c n : Nat) (ss : List (List UInt8)) (s : List UInt8) (w : World) (hx : Strs w A n c ss) (hn : n ≤ 1000000000) :
    Calls Tryz.prog 256 #[.slice A n c, .string (strB s)] w fun e w' => e = .returned (.bool (decide (s ∈ ss))) ∧ w' = w := by
  have hcal := index_any A c n ss s w hx hn
  have Hcal := Lib.hid hcal; clear hcal
  have hfin := Lib.hid (placeL_ge ss s)
  go_enter Tryz.func256, Tryz.ntmps256
  go_wp2_with fail
  refine Hcal.out.mono ?_
  rintro e w1 ⟨rfl, hw1⟩
  obtain rfl : w = w1 := hw1.symm
  go_wp2_with fail
  go_ret
  exact ⟨ret_bool hfin.out, rfl⟩

set_option maxHeartbeats 1000000 in
theorem checkP_any (A : Option Addr) (c n : Nat) (ss : List (List UInt8)) (w : World) (hx : Strs w A n c ss) (hn : n ≤ 1000000000) (hl : ∀ s ∈ ss, s.length ≤ 1000000000) :
    Calls Tryz.prog 185 #[.slice A n c] w fun e w' => e = .returned (.int .i64 ((checkL ss : Nat) : Int)) ∧ w' = w := by
  have Hl := Lib.hid hx.1
  by_cases h64 : n ≤ 64
  · have d0 : decide ((64 : Int) < (n : Int)) = false := by simp; omega
    have hce : Hid (checkL ss = checkTo ss n) := by show _ = _; unfold checkL; rw [if_neg (by rw [Hl.out]; omega), Hl.out]
    go_enter Tryz.func185, Tryz.ntmps185
    go_wp2_with fail
    go_loop [3, 4, 10] (fun _ _ i => ∃ k : Nat, k ≤ n ∧ i = .int .i64 k ∧ Hid (checkTo ss k = 0)) (fun _ _ i => n - (intOf i).toNat)
    case atStart => exact ⟨0, Nat.zero_le _, rfl, rfl⟩
    case round =>
      obtain ⟨k, hk, rfl, HK⟩ := hrel
      by_cases hlt : k < n
      · have hlk : (gs ss k).length ≤ 1000000000 := by rw [gs_get (by rw [Hl.out]; exact hlt)]; exact hl _ (List.getElem_mem _)
        obtain ⟨r1, v1⟩ := hx.cut_h (k : Int) (by omega) (by omega)
        rw [Int.toNat_natCast] at r1 v1
        have hcal := allowed_any (gs ss k) w hlk
        have hpl := contains_any _ _ _ _ (gs ss k) _ v1 (by omega)
        obtain ⟨b, off, rfl, hb, hc⟩ := hx.get hlt
        have h1 := hc k hlt
        clear hc
        by_cases hw : isWordB (gs ss k) = true
        · rw [hw] at hcal
          have Hcal := Lib.hid hcal; clear hcal
          by_cases hm : gs ss k ∈ ss.take k
          · rw [decide_eq_true hm] at hpl
            have Hpl := Lib.hid hpl; clear hpl
            have hfin : Hid (checkL ss = 8) := by
              show _ = _
              have hbad : badAt ss k = 8 := by unfold badAt; rw [if_neg (by rw [hw]; simp), if_pos hm]
              rw [hce.out, checkTo_stop HK.out (by rw [hbad]; omega) n hlt, hbad]
            clear hw hm
            go_wp2_with (first
              | (go_at_call 178; refine Hcal.out.mono ?_; rintro e w1 ⟨rfl, hw1⟩; obtain rfl : w = w1 := hw1.symm)
              | (go_at_call 256; refine Hpl.out.mono ?_; rintro e w1 ⟨rfl, hw1⟩; obtain rfl : w = w1 := hw1.symm))
            go_ret
            exact ⟨ret_int (by rw [hfin.out]; rfl), rfl⟩
          · rw [decide_eq_false hm] at hpl
            have Hpl := Lib.hid hpl; clear hpl
            have hnext : Hid (checkTo ss (k + 1) = 0) := by
              show _ = _
              rw [checkTo, if_pos HK.out]
              exact badAt_zero.2 ⟨hw, hm⟩
            clear hw hm
            go_wp2_with (first
              | (go_at_call 178; refine Hcal.out.mono ?_; rintro e w1 ⟨rfl, hw1⟩; obtain rfl : w = w1 := hw1.symm)
              | (go_at_call 256; refine Hpl.out.mono ?_; rintro e w1 ⟨rfl, hw1⟩; obtain rfl : w = w1 := hw1.symm))
            go_round
            case rel => exact ⟨k + 1, by omega, by go_num, hnext⟩
            case measure => simp [intOf]; omega
        · have hw' : isWordB (gs ss k) = false := by simpa using hw
          rw [hw'] at hcal
          have Hcal := Lib.hid hcal; clear hcal
          have hfin : Hid (checkL ss = 24) := by
            show _ = _
            have hbad : badAt ss k = 24 := by unfold badAt; rw [if_pos hw']
            rw [hce.out, checkTo_stop HK.out (by rw [hbad]; omega) n hlt, hbad]
          clear hw hw' hpl
          go_wp2_with (go_at_call 178; refine Hcal.out.mono ?_; rintro e w1 ⟨rfl, hw1⟩; obtain rfl : w = w1 := hw1.symm)
          go_ret
          exact ⟨ret_int (by rw [hfin.out]; rfl), rfl⟩
      · have hfin : Hid (checkL ss = 0) := by
          show _ = _
          obtain rfl : k = n := by omega
          rw [hce.out]; exact HK.out
        go_wp2_with fail
        go_ret
        exact ⟨ret_int (by rw [hfin.out]; rfl), rfl⟩
  · have d0 : decide ((64 : Int) < (n : Int)) = true := by simp; omega
    have hfin : Hid (checkL ss = 6) := by show _ = _; unfold checkL; rw [if_pos (by rw [Hl.out]; omega)]
    go_enter Tryz.func185, Tryz.ntmps185
    go_wp2_with fail
    go_ret
    exact ⟨ret_int (by rw [hfin.out]; rfl), rfl⟩

def uncR (ss : List (List UInt8)) (bs : List UInt8) : List UInt8 × Nat := if checkL ss = 0 then uncodeL ss bs [] else ([], checkL ss)
theorem drop_at {bs : List UInt8} {k : Nat} (h : k < bs.length) : bs.drop k = bs.getD k 0 :: bs.drop (k + 1) := by
  rw [List.drop_eq_getElem_cons h]; simp [List.getD, h]
theorem word_len {ss : List (List UInt8)} (hw : ∀ s ∈ ss, isWordB s = true) {j : Nat} (hj : j < ss.length) : (gs ss j).length ≤ 32 := by
  have := hw _ (List.getElem_mem hj)
  rw [← gs_get hj] at this
  simp [isWordB] at this
  exact this.2.1

set_option maxRecDepth 100000 in
set_option maxHeartbeats 2000000 in
theorem uncodeR_any (A A' : Option Addr) (c c' n m : Nat) (ss : List (List UInt8)) (bs : List UInt8) (w : World) (hx : Strs w A n c ss) (hy : Bytes w A' m c' bs) (hn : n ≤ 1000000000) (hl : ∀ s ∈ ss, s.length ≤ 1000000000) (hm : m ≤ 2000) :
    Calls Tryz.prog 141 #[.slice A n c, .slice A' m c'] w (RetBytes w (uncR ss bs).1 ((uncR ss bs).2 : Nat)) := by
  have Hl := Lib.hid hy.1
  have Hn := Lib.hid hx.1
  have hcal := checkR_any A c n ss w hx hn hl
  by_cases hc : checkL ss = 0
  · rw [hc] at hcal
    have Hcal := Lib.hid hcal; clear hcal
    obtain ⟨hs64, hsw, hnd⟩ := checkL_zero.1 hc
    have hR : Hid (uncR ss bs = uncodeL ss bs []) := by show _ = _; unfold uncR; rw [if_pos hc]
    have HS := Lib.hid hsw; clear hsw hc hnd
    have HL := Lib.hid hl; clear hl
    rw [Hn.out] at hs64
    have d65 : decide ((65536 : Int) < (m : Int)) = false := by simp; omega
    go_enter Tryz.func141, Tryz.ntmps141
    go_wp2_with fail
    refine Hcal.out.mono ?_
    rintro e w1 ⟨rfl, hb1⟩
    have hx1 := hx.below hb1
    have hy1 := hy.below hb1
    clear hx hy Hcal
    go_wp2_with fail
    go_loopw [7, 8, 9] (fun o i _ wr => ∃ (k : Nat) (A2 : Option Addr) (n2 c2 : Nat) (out : List UInt8), k ≤ m ∧ i = .int .i64 (k : Int) ∧ o = .slice A2 n2 c2 ∧ n2 ≤ 32 * k ∧ Own encB wr w1.heap.size 5 A2 n2 c2 out ∧ Hid (uncodeL ss bs [] = uncodeL ss (bs.drop k) out) ∧ Below w1.heap.size w1 wr) (fun _ i _ _ => m - (intOf i).toNat)
    case atStart => exact ⟨0, none, 0, 0, [], Nat.zero_le _, rfl, rfl, by omega, Own.nil _ _ _ _, by simp [Hid], Below.refl _ _⟩
    case round =>
      obtain ⟨k, A2, n2, c2, out, hk, rfl, rfl, hn2, hown, HU, hbel⟩ := hrel
      by_cases hlt : k < m
      · have hU := HU.out
        rw [drop_at (by rw [Hl.out]; exact hlt)] at hU
        have hxr := hx1.below hbel
        have hyr := hy1.below hbel
        obtain ⟨bb, off, rfl, hbk, hcell⟩ := hyr.get hlt
        have c1 := hcell k hlt
        clear hcell
        obtain ⟨y, hyd⟩ : ∃ y, y = bs.getD k 0 := ⟨_, rfl⟩
        rw [← hyd] at hU
        have hgb : gb bs k = (y.toNat : Int) := by rw [hyd]; rfl
        have hy256 := y.toNat_lt
        rw [hgb] at c1
        clear hgb hyd
        have Hey : Hid (encB y = .int .u8 (y.toNat : Int)) := rfl
        have m1 : Hid (n2 + 1 ≤ maxLen ∧ (n2 + 1) * 1 ≤ 140737488355328) := ⟨by simp [maxLen]; omega, by omega⟩
        have HU0 : Hid True := trivial
        by_cases h1 : y.toNat < 128
        · rw [uncodeL_low h1] at hU
          have HU1 := Lib.hid hU; clear hU
          obtain ⟨X, hX⟩ : ∃ X, X = y.toNat := ⟨_, rfl⟩
          rw [← hX] at c1 h1 hy256 Hey
          clear hX
          have d1 : decide ((128 : Int) ≤ (X : Int)) = false := by simp; omega
          have d1' : decide (128 ≤ X) = false := by simp; omega
          have d2 : decide ((X : Int) < 128) = true := by simp; omega
          have d2' : decide (X < 128) = true := by simp; omega
          have d3 : decide ((65536 : Int) < ((n2 + 1 : Nat) : Int)) = false := by simp; omega
          have d3' : decide ((65536 : Int) < (n2 : Int) + 1) = false := by simp; omega
          go_wp2_with (at_builtin; refine wpList_pushv (enc := encB) rfl (.tmp 44) (.tmp 46) rfl uB infoB encB_one rfl rfl hown hbel.size y _ Hey.out rfl m1.out.1 m1.out.2 ?_; intro A6 c6 W6 ho6 hb6)
          go_roundw
          case rel => exact ⟨k + 1, A6, n2 + 1, c6, _, by omega, by go_num, rfl, by omega, ho6, HU1, hbel.trans hb6⟩
          case measure => simp [intOf]; omega
        · by_cases h255 : y.toNat = 255
          · rw [uncodeL_esc h255] at hU
            have HU1 := Lib.hid hU; clear hU
            have hX1 : 255 ≤ y.toNat := by omega
            clear h255 h1
            obtain ⟨X, hX⟩ : ∃ X, X = y.toNat := ⟨_, rfl⟩
            rw [← hX] at c1 hy256 Hey hX1
            clear hX
            have d1 : decide ((128 : Int) ≤ (X : Int)) = true := by simp; omega
            have d1' : decide (128 ≤ X) = true := by simp; omega
            have d2 : decide ((X : Int) < 128) = false := by simp; omega
            have d2' : decide (X < 128) = false := by simp; omega
            have d3 : decide ((X : Int) < 255) = false := by simp; omega
            have d3' : decide (X < 255) = false := by simp; omega
            by_cases hk1 : k + 1 < m
            · have d4 : ((k : Int) + 1 == (m : Int)) = false := by simp; omega
              have d4' : (((k + 1 : Nat) : Int) == (m : Int)) = false := by simp; omega
              have HU2 := HU1.out
              rw [drop_at (k := k + 1) (by rw [Hl.out]; exact hk1)] at HU2
              have c3 := hyr.cell (k := k + 1) hk1
              obtain ⟨z, hzd⟩ : ∃ z, z = bs.getD (k + 1) 0 := ⟨_, rfl⟩
              rw [← hzd] at HU2
              have hgb : gb bs (k + 1) = (z.toNat : Int) := by rw [hzd]; rfl
              have hz256 := z.toNat_lt
              rw [hgb] at c3
              clear hgb hzd HU1
              have Hez : Hid (encB z = .int .u8 (z.toNat : Int)) := rfl
              simp only at HU2
              by_cases hz : z.toNat < 128
              · rw [if_pos hz] at HU2
                have HU3 := Lib.hid HU2; clear HU2
                obtain ⟨Z, hZ⟩ : ∃ Z, Z = z.toNat := ⟨_, rfl⟩
                rw [← hZ] at c3 hz256 Hez hz
                clear hZ
                have d5 : decide ((Z : Int) < 128) = true := by simp; omega
                have d5' : decide (Z < 128) = true := by simp; omega
                go_wp2_with fail
                go_ret2
                rw [hR.out, HU3.out]
                exact RetBytes.err rfl (hb1.trans (hbel.mono hb1.size))
              · rw [if_neg hz] at HU2
                have HU3 := Lib.hid HU2; clear HU2
                obtain ⟨Z, hZ⟩ : ∃ Z, Z = z.toNat := ⟨_, rfl⟩
                rw [← hZ] at c3 hz256 Hez hz
                clear hZ
                have d5 : decide ((Z : Int) < 128) = false := by simp; omega
                have d5' : decide (Z < 128) = false := by simp; omega
                have d6 : decide ((65536 : Int) < ((n2 + 1 : Nat) : Int)) = false := by simp; omega
                have d6' : decide ((65536 : Int) < (n2 : Int) + 1) = false := by simp; omega
                go_wp2_with (at_builtin; refine wpList_pushv (enc := encB) rfl (.tmp 68) (.tmp 73) rfl uB infoB encB_one rfl rfl hown hbel.size z _ Hez.out rfl m1.out.1 m1.out.2 ?_; intro A6 c6 W6 ho6 hb6)
                go_roundw
                case rel => exact ⟨k + 1 + 1, A6, n2 + 1, c6, _, by omega, by go_num, rfl, by omega, ho6, HU3, hbel.trans hb6⟩
                case measure => simp [intOf]; omega
            · have d4 : ((k : Int) + 1 == (m : Int)) = true := by simp; omega
              have d4' : (((k + 1 : Nat) : Int) == (m : Int)) = true := by simp; omega
              have HU2 : Hid (uncodeL ss bs [] = ([], 9)) := by
                show _ = _
                rw [HU1.out, List.drop_of_length_le (by rw [Hl.out]; omega)]
              clear HU1
              go_wp2_with fail
              go_ret2
              rw [hR.out, HU2.out]
              exact RetBytes.err rfl (hb1.trans (hbel.mono hb1.size))
          · by_cases hw : y.toNat - 128 < n
            · rw [uncodeL_word (by omega) h255 (by rw [Hn.out]; exact hw)] at hU
              have HU1 := Lib.hid hU; clear hU
              have hwl := word_len HS.out (j := y.toNat - 128) (by rw [Hn.out]; exact hw)
              obtain ⟨b4, off4, rfl, hb4, hc4⟩ := hxr.get hw
              have c4 := hc4 (y.toNat - 128) hw
              clear hc4
              obtain ⟨X, hX⟩ : ∃ X, X = y.toNat := ⟨_, rfl⟩
              rw [← hX] at c1 c4 hy256 Hey h255 h1 hw hwl HU1
              clear hX
              have d1 : decide ((128 : Int) ≤ (X : Int)) = true := by simp; omega
              have d1' : decide (128 ≤ X) = true := by simp; omega
              have d2 : decide ((X : Int) < 128) = false := by simp; omega
              have d2' : decide (X < 128) = false := by simp; omega
              have d3 : decide ((X : Int) < 255) = true := by simp; omega
              have d3' : decide (X < 255) = true := by simp; omega
              have d4 : decide ((n : Int) ≤ (X : Int) - 128) = false := by simp; omega
              have b8 : (X : Int) - 128 < (n : Int) := by omega
              have b0 : 0 ≤ (X : Int) - 128 := by omega
              have d6 : decide ((65536 : Int) < ((n2 + (gs ss (X - 128)).length : Nat) : Int)) = false := by simp; omega
              have d6' : decide ((65536 : Int) < (n2 : Int) + ((gs ss (X - 128)).length : Int)) = false := by simp; omega
              have m2 : Hid (n2 + (gs ss (X - 128)).length ≤ maxLen ∧ n2 + (gs ss (X - 128)).length ≤ 140737488355328) := ⟨by simp [maxLen]; omega, by omega⟩
              have h1' : 128 ≤ X := by omega
              clear h1 h255
              go_wp2_with (at_builtin; refine wpList_apps rfl (.tmp 50) (.tmp 55) rfl uB uS infoB rfl hown hbel.size (gs ss (X - 128)) rfl m2.out.1 m2.out.2 ?_; intro A6 c6 W6 ho6 hb6)
              go_roundw
              case rel => exact ⟨k + 1, A6, n2 + (gs ss (X - 128)).length, c6, _, by omega, by go_num, rfl, by omega, ho6, HU1, hbel.trans hb6⟩
              case measure => simp [intOf]; omega
            · rw [uncodeL_none (by omega) h255 (by rw [Hn.out]; omega)] at hU
              have HU1 := Lib.hid hU; clear hU
              obtain ⟨X, hX⟩ : ∃ X, X = y.toNat := ⟨_, rfl⟩
              rw [← hX] at c1 hy256 Hey h255 h1 hw
              clear hX
              have d1 : decide ((128 : Int) ≤ (X : Int)) = true := by simp; omega
              have d1' : decide (128 ≤ X) = true := by simp; omega
              have d3 : decide ((X : Int) < 255) = true := by simp; omega
              have d3' : decide (X < 255) = true := by simp; omega
              have d4 : decide ((n : Int) ≤ (X : Int) - 128) = true := by simp; omega
              go_wp2_with fail
              go_ret2
              rw [hR.out, HU1.out]
              exact RetBytes.err rfl (hb1.trans (hbel.mono hb1.size))
      · have HU2 : Hid (uncodeL ss bs [] = (out, 0)) := by
          show _ = _
          rw [HU.out, List.drop_of_length_le (by rw [Hl.out]; omega)]
          rfl
        go_wp2_with fail
        go_ret2
        rw [hR.out, HU2.out]
        exact RetBytes.mk rfl hown.bytesBDic (hb1.trans (hbel.mono hb1.size))
  · rw [show ((checkL ss : Nat) : Int) = _ from rfl] at hcal
    have Hcal := Lib.hid hcal; clear hcal
    have hR : Hid ((uncR ss bs).1 = [] ∧ (uncR ss bs).2 = checkL ss) := by show _ ∧ _; unfold uncR; rw [if_neg hc]; exact ⟨rfl, rfl⟩
    have d0 : (((checkL ss : Nat) : Int) != 0) = true := by simp; exact hc
    clear hc
    go_enter Tryz.func141, Tryz.ntmps141
    go_wp2_with fail
    refine Hcal.out.mono ?_
    rintro e w1 ⟨rfl, hb1⟩
    go_wp2_with fail
    go_ret2
    rw [hR.out.1, hR.out.2]
    exact RetBytes.err rfl hb1
end Go.Proofs.YtckkmafppfcecaaGreatDoor.Dic
/- Uncode of the program. -/
namespace Go.Proofs.YtckkmafppfcecaaGreatDoor.Dic
open Go.RowKit Go.Proofs
set_option linter.unusedVariables false

def vLen (v : Value) : Nat := match v with
  | .slice _ n _ => n
  | _ => 0
theorem cons_of {w : World} {A : Option Addr} {n c : Nat} {r : List UInt8} (h : Bytes w A n c r) (h0 : 0 < n) : ∃ y r', r = y :: r' ∧ r'.length = n - 1 := by
  have hl := h.1
  cases r with
  | nil => simp at hl; omega
  | cons y r' => exact ⟨y, r', rfl, by simp at hl; omega⟩

theorem _root_.Go.Proofs.YtckkmafppfcecaaGreatDoor.Own.drewN {α : Type} {enc : α → Value} {w : World} {B : Nat} {e : TypeId} {A : Option Addr} {n c : Nat} {xs : List α} (h : Own enc w B e A n c xs) (q : Nat) : Own enc (w.drewN q) B e A n c xs := h
theorem _root_.Go.Proofs.YtckkmafppfcecaaGreatDoor.Own.drew {α : Type} {enc : α → Value} {w : World} {B : Nat} {e : TypeId} {A : Option Addr} {n c : Nat} {xs : List α} (h : Own enc w B e A n c xs) : Own enc w.drew B e A n c xs := h
section
variable {α : Type} {enc : α → Value} {P : Program} {w : World} {B : Nat} {e t : TypeId} {A : Option Addr} {n c : Nat} {xs : List α} {zero : α} {bytes : Nat}
  {ops : Array Oper} {rest : List Oper} {o : Oper} {a : Act} {K : Act → World → Prop} {Q : Exit → Act → World → Prop} {E : Prop}
theorem step_pushv (hgd : o.guard = none) (s x : Operand) (ho : o.op = .call { callee := .builtin .append, args := #[s, x], argTypes := #[t, t] })
    (ht : P.underlying t = some (.slice e)) (hi : (P.info? e).map (fun i => (i.zero, i.size, i.bytes)) = some (some (enc zero), 1, bytes)) (h1 : ∀ x, (enc x).oneCell' = true) (hz : (enc zero).cells.size = 1)
    (hs : a.eval s = .slice A n c) (hown : Own enc w B e A n c xs) (hB : B ≤ w.heap.size) (y : α) (v : Value) (hv : enc y = v)
    (hx : a.eval x = .slice (some ⟨w.heap.size, 0, none⟩) 1 1) (hl : n + 1 ≤ maxLen) (hby : (n + 1) * bytes ≤ 140737488355328)
    (h : ∀ A2 c2 w', Own enc w' B e A2 (n + 1) c2 (xs ++ [y]) → Below B w w' → K (a.put o.dst (.slice A2 (n + 1) c2)) w') :
    if Region.wanted o (yielded ops a.tmps) = true then Oper.wp P o a (w.alloc (.cells #[v] e)) K Q else E := by
  subst hv
  exact step_push hgd s x ho ht hi h1 hz hs hown hB y hx hl hby h
end

set_option maxRecDepth 100000 in
set_option maxHeartbeats 4000000 in
theorem uncodeP_any (A A' : Option Addr) (c c' n m : Nat) (ss : List (List UInt8)) (bs : List UInt8) (w : World) (hx : Strs w A n c ss) (hy : Bytes w A' m c' bs) (hn : n ≤ 1000000000) (hl : ∀ s ∈ ss, s.length ≤ 1000000000) (hm : m ≤ 2000) :
    Calls Tryz.prog 120 #[.slice A n c, .slice A' m c'] w (RetBytes w (uncR ss bs).1 ((uncR ss bs).2 : Nat)) := by
  have Hl := Lib.hid hy.1
  have Hn := Lib.hid hx.1
  have hcal := checkP_any A c n ss w hx hn hl
  by_cases hc : checkL ss = 0
  · rw [hc] at hcal
    have Hcal := Lib.hid hcal; clear hcal
    obtain ⟨hs64, hsw, hnd⟩ := checkL_zero.1 hc
    have hR : Hid (uncR ss bs = uncodeL ss bs []) := by show _ = _; unfold uncR; rw [if_pos hc]
    have HS := Lib.hid hsw; clear hsw hc hnd
    have HL := Lib.hid hl; clear hl
    rw [Hn.out] at hs64
    have d65 : decide ((65536 : Int) < (m : Int)) = false := by simp; omega
    go_enter Tryz.func120, Tryz.ntmps120
    go_wp2_with fail
    refine Hcal.out.mono ?_
    rintro e w1 ⟨rfl, hw1⟩
    obtain rfl : w = w1 := hw1.symm
    clear Hcal
    go_wp2_with fail
    go_loopw [1, 7, 8] (fun v o _ wr => ∃ (Ab : Option Addr) (nb cb : Nat) (r : List UInt8) (A2 : Option Addr) (n2 c2 : Nat) (out : List UInt8), v = .slice Ab nb cb ∧ Bytes w Ab nb cb r ∧ o = .slice A2 n2 c2 ∧ n2 + 32 * nb ≤ 64000 ∧ Own encB wr w.heap.size 5 A2 n2 c2 out ∧ Hid (uncodeL ss bs [] = uncodeL ss r out) ∧ Below w.heap.size w wr) (fun v _ _ _ => vLen v)
    case atStart => exact ⟨A', m, c', bs, none, 0, 0, [], rfl, hy, rfl, by omega, Own.nil _ _ _ _, by simp [Hid], Below.refl _ _⟩
    case round =>
      obtain ⟨Ab, nb, cb, r, A2, n2, c2, out, rfl, hr, rfl, hn2, hown, HU, hbel⟩ := hrel
      by_cases hlt : 0 < nb
      · have d0 : decide ((0 : Int) < (nb : Int)) = true := by simp; omega
        have d0' : decide (0 < nb) = true := by simp; omega
        obtain ⟨y, r', rfl, hl'⟩ := cons_of hr hlt
        have hU := HU.out
        have hxr := hx.below hbel
        have hcap := hr.2.1
        obtain ⟨A5, r5, v5⟩ := hr.cut_l tB eB sB (1 : Int) (by omega) (by omega)
        rw [show (1 : Int).toNat = 1 from rfl] at r5 v5
        rw [List.drop_one, List.tail_cons] at v5
        have hrr := hr.below hbel
        obtain ⟨bb, off, rfl, hbk, hcell⟩ := hrr.get hlt
        have c1 := hcell 0 hlt
        clear hcell
        have hgb : gb (y :: r') 0 = (y.toNat : Int) := rfl
        have hy256 := y.toNat_lt
        rw [hgb, Nat.add_zero] at c1
        clear hgb
        have Hl' := Lib.hid hl'; clear hl'
        have Hey : Hid (encB y = .int .u8 (y.toNat : Int)) := rfl
        have m1 : Hid (n2 + 1 ≤ maxLen ∧ (n2 + 1) * 1 ≤ 140737488355328) := ⟨by simp [maxLen]; omega, by omega⟩
        have b9 : nb ≤ 2000 := by omega
        by_cases h1 : y.toNat < 128
        · rw [uncodeL_low h1] at hU
          have HU1 := Lib.hid hU; clear hU
          obtain ⟨X, hX⟩ : ∃ X, X = y.toNat := ⟨_, rfl⟩
          rw [← hX] at c1 h1 hy256 Hey
          clear hX
          have d2 : decide ((X : Int) < 128) = true := by simp; omega
          have d2' : decide (X < 128) = true := by simp; omega
          have d3 : decide ((65536 : Int) < ((n2 + 1 : Nat) : Int)) = false := by simp; omega
          have d3' : decide ((65536 : Int) < (n2 : Int) + 1) = false := by simp; omega
          go_wp2_with (at_builtin; refine wpList_pushv (enc := encB) rfl (.tmp 35) (.tmp 37) rfl uB infoB encB_one rfl rfl hown hbel.size y _ Hey.out rfl m1.out.1 m1.out.2 ?_; intro A6 c6 W6 ho6 hb6)
          go_roundw
          case rel => exact ⟨A5, nb - 1, cb - 1, r', A6, n2 + 1, c6, _, rfl, v5, rfl, by omega, ho6, HU1, hbel.trans hb6⟩
          case measure => simp [vLen]; omega
        · by_cases h255 : y.toNat = 255
          · rw [uncodeL_esc h255] at hU
            have HU1 := Lib.hid hU; clear hU
            have hX1 : 255 ≤ y.toNat := by omega
            clear h255 h1
            obtain ⟨X, hX⟩ : ∃ X, X = y.toNat := ⟨_, rfl⟩
            rw [← hX] at c1 hy256 Hey hX1
            clear hX
            have d2 : decide ((X : Int) < 128) = false := by simp; omega
            have d2' : decide (X < 128) = false := by simp; omega
            have d3 : ((X : Int) == 255) = true := by simp; omega
            by_cases hk1 : 1 < nb
            · have d4 : (((nb - 1 : Nat) : Int) == 0) = false := by simp; omega
              have d4' : ((nb : Int) - 1 == 0) = false := by simp; omega
              have d7 : decide ((0 : Int) < ((nb - 1 : Nat) : Int)) = true := by simp; omega
              have d7' : (0 : Int) < ((nb - 1 : Nat) : Int) := by omega
              have d7'' : 0 < nb - 1 := by omega
              obtain ⟨z, r'', hzr, hl''⟩ := cons_of v5 (by omega)
              subst hzr
              have HU2 := HU1.out
              obtain ⟨A7, r7, v7⟩ := v5.cut_l tB eB sB (1 : Int) (by omega) (by omega)
              rw [show (1 : Int).toNat = 1 from rfl] at r7 v7
              rw [List.drop_one, List.tail_cons] at v7
              obtain ⟨b3, off3, rfl, hb3, hc3⟩ := (v5.below hbel).get (k := 0) (by omega)
              have c3 := hc3 0 (by omega)
              have hgb : gb (z :: r'') 0 = (z.toNat : Int) := rfl
              have hz256 := z.toNat_lt
              rw [hgb, Nat.add_zero] at c3
              clear hgb hc3 HU1
              have Hez : Hid (encB z = .int .u8 (z.toNat : Int)) := rfl
              have Hl'' := Lib.hid hl''; clear hl''
              simp only at HU2
              by_cases hz : z.toNat < 128
              · rw [if_pos hz] at HU2
                have HU3 := Lib.hid HU2; clear HU2
                obtain ⟨Z, hZ⟩ : ∃ Z, Z = z.toNat := ⟨_, rfl⟩
                rw [← hZ] at c3 hz256 Hez hz
                clear hZ
                have d5 : decide ((Z : Int) < 128) = true := by simp; omega
                have d5' : decide (Z < 128) = true := by simp; omega
                go_wp2_with fail
                go_ret2
                rw [hR.out, HU3.out]
                exact RetBytes.err rfl hbel
              · rw [if_neg hz] at HU2
                have HU3 := Lib.hid HU2; clear HU2
                obtain ⟨Z, hZ⟩ : ∃ Z, Z = z.toNat := ⟨_, rfl⟩
                rw [← hZ] at c3 hz256 Hez hz
                clear hZ
                have d5 : decide ((Z : Int) < 128) = false := by simp; omega
                have d5' : decide (Z < 128) = false := by simp; omega
                have d6 : decide ((65536 : Int) < ((n2 + 1 : Nat) : Int)) = false := by simp; omega
                have d6' : decide ((65536 : Int) < (n2 : Int) + 1) = false := by simp; omega
                go_wp2_with fail
                go_region_law (first
                  | (refine step_pushv (enc := encB) (bytes := 1) (zero := 0) rfl (.tmp 59) (.tmp 63) rfl uB infoB encB_one rfl rfl (w := wr.drew) hown.drew hbel.size z _ Hez.out rfl m1.out.1 m1.out.2 ?_; intro A6 c6 W6 ho6 hb6))
                all_goals
                  go_wp2_with fail
                  go_roundw
                  case rel => exact ⟨A7, nb - 1 - 1, cb - 1 - 1, r'', A6, n2 + 1, c6, _, rfl, v7, rfl, by omega, ho6, HU3, hbel.trans (((Drawn.drewN wr 1).below _).trans hb6)⟩
                  case measure => simp [vLen]; omega
            · have d4 : (((nb - 1 : Nat) : Int) == 0) = true := by simp; omega
              have d4' : ((nb : Int) - 1 == 0) = true := by simp; omega
              have HU2 : Hid (uncodeL ss bs [] = ([], 9)) := by
                show _ = _
                have : r' = [] := List.length_eq_zero_iff.1 (by rw [Hl'.out]; omega)
                rw [HU1.out, this]
              clear HU1
              go_wp2_with fail
              go_ret2
              rw [hR.out, HU2.out]
              exact RetBytes.err rfl hbel
          · have d3 : ((y.toNat : Int) == 255) = false := by simp; omega
            by_cases hw : y.toNat - 128 < n
            · rw [uncodeL_word (by omega) h255 (by rw [Hn.out]; exact hw)] at hU
              have HU1 := Lib.hid hU; clear hU
              have hwl := word_len HS.out (j := y.toNat - 128) (by rw [Hn.out]; exact hw)
              obtain ⟨b4, off4, rfl, hb4, hc4⟩ := hxr.get hw
              have c4 := hc4 (y.toNat - 128) hw
              clear hc4
              obtain ⟨X, hX⟩ : ∃ X, X = y.toNat := ⟨_, rfl⟩
              rw [← hX] at c1 c4 hy256 Hey h255 h1 hw hwl HU1 d3
              clear hX
              have d2 : decide ((X : Int) < 128) = false := by simp; omega
              have d2' : decide (X < 128) = false := by simp; omega
              have d4 : decide ((n : Int) ≤ (X : Int) - 128) = false := by simp; omega
              have b8 : (X : Int) - 128 < (n : Int) := by omega
              have b0 : 0 ≤ (X : Int) - 128 := by omega
              have d6 : decide ((65536 : Int) < ((n2 + (gs ss (X - 128)).length : Nat) : Int)) = false := by simp; omega
              have d6' : decide ((65536 : Int) < (n2 : Int) + ((gs ss (X - 128)).length : Int)) = false := by simp; omega
              have m2 : Hid (n2 + (gs ss (X - 128)).length ≤ maxLen ∧ n2 + (gs ss (X - 128)).length ≤ 140737488355328) := ⟨by simp [maxLen]; omega, by omega⟩
              have h1' : 128 ≤ X := by omega
              clear h1 h255
              go_wp2_with (at_builtin; refine wpList_apps rfl (.tmp 25) (.tmp 30) rfl uB uS infoB rfl hown hbel.size (gs ss (X - 128)) rfl m2.out.1 m2.out.2 ?_; intro A6 c6 W6 ho6 hb6)
              go_roundw
              case rel => exact ⟨A5, nb - 1, cb - 1, r', A6, n2 + (gs ss (X - 128)).length, c6, _, rfl, v5, rfl, by omega, ho6, HU1, hbel.trans hb6⟩
              case measure => simp [vLen]; omega
            · rw [uncodeL_none (by omega) h255 (by rw [Hn.out]; omega)] at hU
              have HU1 := Lib.hid hU; clear hU
              obtain ⟨X, hX⟩ : ∃ X, X = y.toNat := ⟨_, rfl⟩
              rw [← hX] at c1 hy256 Hey h255 h1 hw d3
              clear hX
              have d2 : decide ((X : Int) < 128) = false := by simp; omega
              have d2' : decide (X < 128) = false := by simp; omega
              have d4 : decide ((n : Int) ≤ (X : Int) - 128) = true := by simp; omega
              have h1' : 128 ≤ X := by omega
              go_wp2_with fail
              go_ret2
              rw [hR.out, HU1.out]
              exact RetBytes.err rfl hbel
      · have HU2 : Hid (uncodeL ss bs [] = (out, 0)) := by
          show _ = _
          have : r = [] := List.length_eq_zero_iff.1 (by rw [hr.1]; omega)
          rw [HU.out, this]
          rfl
        have d0 : decide ((0 : Int) < (nb : Int)) = false := by simp; omega
        have d0' : decide (0 < nb) = false := by simp; omega
        go_wp2_with fail
        go_ret2
        rw [hR.out, HU2.out]
        exact RetBytes.mk rfl hown.bytesBDic hbel
  · rw [show ((checkL ss : Nat) : Int) = _ from rfl] at hcal
    have Hcal := Lib.hid hcal; clear hcal
    have hR : Hid ((uncR ss bs).1 = [] ∧ (uncR ss bs).2 = checkL ss) := by show _ ∧ _; unfold uncR; rw [if_neg hc]; exact ⟨rfl, rfl⟩
    have d0 : (((checkL ss : Nat) : Int) != 0) = true := by simp; exact hc
    clear hc
    go_enter Tryz.func120, Tryz.ntmps120
    go_wp2_with fail
    refine Hcal.out.mono ?_
    rintro e w1 ⟨rfl, hw1⟩
    obtain rfl : w = w1 := hw1.symm
    go_wp2_with fail
    go_ret2
    rw [hR.out.1, hR.out.2]
    exact RetBytes.err rfl (Below.refl _ _)
end Go.Proofs.YtckkmafppfcecaaGreatDoor.Dic
