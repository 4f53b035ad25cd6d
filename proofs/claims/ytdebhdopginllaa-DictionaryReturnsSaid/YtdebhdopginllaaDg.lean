/- Code of the reference; append of a string's bytes. -/
import Derived.Test.YtdebhdopginllaaDe
import Derived.Test.YtdebhdopginllaaDf
import Derived.Lib.AppendStr
namespace Go.Proofs.Ytdebhdopginllaa
open Go.RowKit Go.Proofs
set_option linter.unusedVariables false

def encB (b : UInt8) : Value := .int .u8 (b.toNat : Int)
theorem encB_one (s : UInt8) : (encB s).oneCell' = true := rfl
theorem infoB : (Try.prog.info? 5).map (fun i => (i.zero, i.size, i.bytes)) = some (some (encB 0), 1, 1) := by kernel_rfl
theorem Own.bytesB {w : World} {B : Nat} {e : TypeId} {A : Option Addr} {n c : Nat} {bs : List UInt8} (h : Own encB w B e A n c bs) : Bytes w A n c bs := ⟨h.length, h.cap, h.cells 0⟩

section
variable {α : Type} {enc : α → Value} {P : Program} {w : World} {B : Nat} {e t : TypeId} {A : Option Addr} {n c : Nat} {xs : List α} {zero : α} {bytes : Nat}
  {ops : Array Oper} {rest : List Oper} {o : Oper} {a : Act} {K : Act → World → Prop} {Q : Exit → Act → World → Prop} {E : Prop}
/-- append(x, y) of one element, whose value is v. -/
theorem wpList_pushv (hgd : o.guard = none) (s x : Operand) (ho : o.op = .call { callee := .builtin .append, args := #[s, x], argTypes := #[t, t] })
    (ht : P.underlying t = some (.slice e)) (hi : (P.info? e).map (fun i => (i.zero, i.size, i.bytes)) = some (some (enc zero), 1, bytes)) (h1 : ∀ x, (enc x).oneCell' = true) (hz : (enc zero).cells.size = 1)
    (hs : a.eval s = .slice A n c) (hown : Own enc w B e A n c xs) (hB : B ≤ w.heap.size) (y : α) (v : Value) (hv : enc y = v)
    (hx : a.eval x = .slice (some ⟨w.heap.size, 0, none⟩) 1 1) (hl : n + 1 ≤ maxLen) (hby : (n + 1) * bytes ≤ 140737488355328)
    (h : ∀ A2 c2 w', Own enc w' B e A2 (n + 1) c2 (xs ++ [y]) → Below B w w' → wpList P ops Q rest (a.put o.dst (.slice A2 (n + 1) c2)) w') : wpList P ops Q (o :: rest) a (w.alloc (.cells #[v] e)) := by
  subst hv
  exact wpList_push hgd s x ho ht hi h1 hz hs hown hB y hx hl hby h
theorem wpList_apps {bs : List UInt8} {u : TypeId} (hgd : o.guard = none) (s x : Operand) (ho : o.op = .call { callee := .builtin .append, args := #[s, x], argTypes := #[t, u] })
    (ht : P.underlying t = some (.slice e)) (hu : P.underlying u = some .string) (hi : (P.info? e).map (fun i => (i.zero, i.size, i.bytes)) = some (some (encB 0), 1, 1))
    (hs : a.eval s = .slice A n c) (hown : Own encB w B e A n c bs) (hB : B ≤ w.heap.size) (ys : List UInt8)
    (hx : a.eval x = .string (strB ys)) (hl : n + ys.length ≤ maxLen) (hby : n + ys.length ≤ 140737488355328)
    (h : ∀ A2 c2 w', Own encB w' B e A2 (n + ys.length) c2 (bs ++ ys) → Below B w w' → wpList P ops Q rest (a.put o.dst (.slice A2 (n + ys.length) c2)) w') : wpList P ops Q (o :: rest) a w := by
  obtain ⟨i, hi0, hz0, hs1, hb1⟩ := info_parts hi
  have hsz := strB_size ys
  refine Lib.wpList_append_own_string (w := w) hgd s x t u ho B e i ht hu hi0 hz0 hs1 hb1 _ n _ hs hown (strB ys) hx (by rw [hsz]; exact hl) (by rw [hsz]; exact hby) hB ?_
  intro v' w' h2 h3 h4
  rw [hsz] at h2
  have hform : ∃ A2 c2, v' = .slice A2 (n + ys.length) c2 := by
    rcases h2.2 with ⟨rfl, h0⟩ | ⟨g, cap, cur, rfl, _⟩
    · exact ⟨none, 0, by rw [h0]⟩
    · exact ⟨_, _, rfl⟩
  obtain ⟨A2, c2, rfl⟩ := hform
  refine h A2 c2 w' ?_ ((Below.refl B w).grown h3 hB (fun k hk => (World.ownsRow.lt hown k hk).1))
  unfold Own
  rw [List.map_append]
  exact h2
end

/-- a result: bytes and a number. -/
def RetBytes (w : World) (bs : List UInt8) (x : Int) (e : Ending) (w' : World) : Prop := ∃ A n c, e = .returned (.tuple #[.slice A n c, .int .i64 x]) ∧ Bytes w' A n c bs ∧ Below w.heap.size w w'
theorem Bytes.nil (w : World) (c : Nat) : Bytes w none 0 c [] := ⟨rfl, Nat.zero_le _, fun h => absurd h (by omega)⟩
theorem RetBytes.mk {w w' : World} {bs : List UInt8} {x x' : Int} {A : Option Addr} {n c : Nat} (hx : x = x') (h : Bytes w' A n c bs) (hb : Below w.heap.size w w') : RetBytes w bs x' (.returned (.tuple #[.slice A n c, .int .i64 x])) w' := by
  subst hx
  exact ⟨A, n, c, rfl, h, hb⟩
theorem RetBytes.err {w w' : World} {x x' : Int} (hx : x = x') (hb : Below w.heap.size w w') : RetBytes w [] x' (.returned (.tuple #[.slice none 0 0, .int .i64 x])) w' := RetBytes.mk hx (Bytes.nil _ _) hb

def codeR (ss : List (List UInt8)) (bs : List UInt8) : List UInt8 × Nat := if checkL ss = 0 then (codeL ss bs, 0) else ([], checkL ss)
theorem checkL_le (ss : List (List UInt8)) : checkL ss ≤ 24 := by
  have h : ∀ k, checkTo ss k ≤ 24 := fun k => by
    induction k with
    | zero => simp [checkTo]
    | succ k ih =>
      rw [checkTo]
      split
      · unfold badAt
        split
        · omega
        · split <;> omega
      · exact ih
  unfold checkL
  split
  · omega
  · exact h _
theorem encB_gb (bs : List UInt8) (k : Nat) : encB (bs.getD k 0) = .int .u8 (gb bs k) := rfl

set_option maxRecDepth 100000 in
set_option maxHeartbeats 2000000 in
theorem codeR_any (A A' : Option Addr) (c c' n m : Nat) (ss : List (List UInt8)) (bs : List UInt8) (w : World) (hx : Strs w A n c ss) (hy : Bytes w A' m c' bs) (hn : n ≤ 1000000000) (hl : ∀ s ∈ ss, s.length ≤ 1000000000) (hm : m ≤ 2000) :
    Calls Try.prog 14 #[.slice A n c, .slice A' m c'] w (RetBytes w (codeR ss bs).1 ((codeR ss bs).2 : Nat)) := by
  have Hl := Lib.hid hy.1
  have hcal := checkR_any A c n ss w hx hn hl
  by_cases hc : checkL ss = 0
  · rw [hc] at hcal
    have Hcal := Lib.hid hcal; clear hcal
    obtain ⟨hs64, hsw, hnd⟩ := checkL_zero.1 hc
    have hR : Hid ((codeR ss bs).1 = codeL ss bs ∧ (codeR ss bs).2 = 0) := by show _ ∧ _; unfold codeR; rw [if_pos hc]; exact ⟨rfl, rfl⟩
    have HS := Lib.hid hsw; clear hsw hc
    have HN := Lib.hid hnd; clear hnd
    have HL := Lib.hid hl; clear hl
    have d65 : decide ((65536 : Int) < (m : Int)) = false := by simp; omega
    go_enter Try.func14, Try.ntmps14
    go_wp2_with fail
    refine Hcal.out.mono ?_
    rintro e w1 ⟨rfl, hb1⟩
    have hx1 := hx.below hb1
    have hy1 := hy.below hb1
    clear hx hy Hcal
    go_wp2_with fail
    go_loopw [7, 8] (fun o i wr => ∃ (k : Nat) (A2 : Option Addr) (n2 c2 : Nat), k ≤ (piecesL bs).length ∧ i = .int .i64 ((stP bs k : Nat) : Int) ∧ o = .slice A2 n2 c2 ∧ Own encB wr w1.heap.size 5 A2 n2 c2 (codeTo ss bs k) ∧ Below w1.heap.size w1 wr) (fun _ i _ => m - (intOf i).toNat)
    case atStart => exact ⟨0, none, 0, 0, Nat.zero_le _, rfl, rfl, Own.nil _ _ _ _, Below.refl _ _⟩
    case round =>
      obtain ⟨k, A2, n2, c2, hk, rfl, rfl, hown, hbel⟩ := hrel
      have hst := (pieces_at hk).1
      rw [Hl.out] at hst
      by_cases hlt : stP bs k < m
      · have hk' := pieces_more hk (by rw [Hl.out]; exact hlt)
        have d0 : decide (((stP bs k : Nat) : Int) < (m : Int)) = true := by simp; omega
        have d0' : decide (stP bs k < m) = true := by simp; omega
        have hxr := hx1.below hbel
        have hyr := hy1.below hbel
        have hcal := run_any _ _ _ (stP bs k) _ _ hyr (by omega) (by omega)
        have Hcal := Lib.hid hcal; clear hcal
        have hnext : stP bs (k + 1) = stP bs k + plen (bs.drop (stP bs k)) := rfl
        have hrl := runL_le (bs.drop (stP bs k))
        rw [List.length_drop, Hl.out] at hrl
        have hw : codeTo ss bs (k + 1) = codeTo ss bs k ++ codeP ss (pcP bs k) := rfl
        have hkind := pcP_kind hk'
        have hpne := pcP_ne hk'
        have hgb0 := pcP_gb (bs := bs) (k := k) (i := 0) (by have := plen_pos (bs.drop (stP bs k)); omega)
        unfold wdP at hkind
        have hpc : pcP bs k = (bs.drop (stP bs k)).take (plen (bs.drop (stP bs k))) := rfl
        obtain ⟨r, hr⟩ : ∃ r, r = runL (bs.drop (stP bs k)) := ⟨_, rfl⟩
        unfold plen at hnext hpc
        rw [← hr] at Hcal hnext hrl hkind hpc
        obtain ⟨st, hst'⟩ : ∃ st, st = stP bs k := ⟨_, rfl⟩
        have hcl := codeTo_len (ws := ss) hk
        rw [← hst'] at Hcal hnext hrl hst hlt d0 d0' hcl hpc hgb0 ⊢
        clear hr hst'
        have hn2 := hown.length
        rw [hn2] at hcl
        have Hn2 := Lib.hid hn2; clear hn2
        rcases Nat.eq_zero_or_pos r with h0 | h0
        · have hn1 : Hid (stP bs (k + 1) = st + 1) := by show _ = _; rw [hnext, h0]; rfl
          have hbyte : ∃ b, pcP bs k = [b] := by
            rcases hkind with ⟨h, -⟩ | ⟨-, b, hb, -⟩
            · rw [h0] at h; simp at h
            · exact ⟨b, hb⟩
          obtain ⟨b, hb⟩ := hbyte
          rw [hb, codeP_byte HS.out] at hw
          rw [hb] at hgb0
          have hgb : (b.toNat : Int) = gb bs st := by simpa [gb] using hgb0
          have d1 : (((st + r : Nat) : Int) == (st : Int)) = true := by simp; omega
          have d1' : ((st : Int) + (r : Int) == (st : Int)) = true := by simp; omega
          clear hnext hkind hpc hgb0 hpne hb h0
          obtain ⟨bb, off, rfl, hbk, hcell⟩ := hyr.get hlt
          have c1 := hcell st hlt
          clear hcell
          have m1 : Hid (n2 + 1 ≤ maxLen ∧ (n2 + 1) * 1 ≤ 140737488355328) := ⟨by simp [maxLen]; omega, by omega⟩
          have m2 : Hid (n2 + 1 + 1 ≤ maxLen ∧ (n2 + 1 + 1) * 1 ≤ 140737488355328) := ⟨by simp [maxLen]; omega, by omega⟩
          by_cases h128 : 128 ≤ (b.toNat : Int)
          · rw [if_pos h128] at hw
            have Hw := Lib.hid hw; clear hw
            have d2 : decide ((128 : Int) ≤ gb bs st) = true := by rw [← hgb]; simpa using h128
            have Hgb : Hid (encB b = .int .u8 (gb bs st)) := by show _ = _; unfold encB; rw [hgb]
            clear hgb h128
            go_wp2_with (first
              | (go_at_call 43; refine Hcal.out.mono ?_; rintro e w2 ⟨rfl, hw2⟩; obtain rfl : wr = w2 := hw2.symm)
              | (at_builtin; refine wpList_pushv (enc := encB) rfl (.tmp 34) (.tmp 35) rfl uB infoB encB_one rfl rfl hown hbel.size (255 : UInt8) _ rfl rfl m1.out.1 m1.out.2 ?_; intro A6 c6 W6 ho6 hb6; have c2 := (hy1.below (hbel.trans hb6)).cell hlt)
              | (at_builtin; refine wpList_pushv (enc := encB) rfl (.tmp 37) (.tmp 42) rfl uB infoB encB_one rfl rfl ho6 (Nat.le_trans hbel.size hb6.size) b _ Hgb.out rfl m2.out.1 m2.out.2 ?_; intro A7 c7 W7 ho7 hb7))
            go_roundw
            case rel => exact ⟨k + 1, A7, n2 + 1 + 1, c7, hk', by rw [hn1.out]; go_num, rfl, by rw [Hw.out]; simpa using ho7, hbel.trans (hb6.trans hb7)⟩
            case measure => simp [intOf]; omega
          · rw [if_neg h128] at hw
            have Hw := Lib.hid hw; clear hw
            have d2 : decide ((128 : Int) ≤ gb bs st) = false := by rw [← hgb]; simpa using h128
            have Hgb : Hid (encB b = .int .u8 (gb bs st)) := by show _ = _; unfold encB; rw [hgb]
            clear hgb h128
            go_wp2_with (first
              | (go_at_call 43; refine Hcal.out.mono ?_; rintro e w2 ⟨rfl, hw2⟩; obtain rfl : wr = w2 := hw2.symm)
              | (at_builtin; refine wpList_pushv (enc := encB) rfl (.tmp 37) (.tmp 42) rfl uB infoB encB_one rfl rfl hown hbel.size b _ Hgb.out rfl m1.out.1 m1.out.2 ?_; intro A6 c6 W6 ho6 hb6))
            go_roundw
            case rel => exact ⟨k + 1, A6, n2 + 1, c6, hk', by rw [hn1.out]; go_num, rfl, by rw [Hw.out]; exact ho6, hbel.trans hb6⟩
            case measure => simp [intOf]; omega
        · have hn1 : Hid (stP bs (k + 1) = st + r) := by show _ = _; rw [hnext, show max r 1 = r by omega]
          have hwd : runL (pcP bs k) = (pcP bs k).length := by
            rcases hkind with ⟨-, h⟩ | ⟨h, -⟩
            · exact h
            · simp at h; omega
          rw [codeP_word hwd hpne] at hw
          have d1 : (((st + r : Nat) : Int) == (st : Int)) = false := by simp; omega
          have d1' : ((st : Int) + (r : Int) == (st : Int)) = false := by simp; omega
          obtain ⟨A4, r4, v4⟩ := hyr.cut_lh tB eB sB (st : Int) ((st : Int) + (r : Int)) (by omega) (by omega) (by omega)
          rw [Int.toNat_natCast, show ((st : Int) + (r : Int)).toNat - st = r by omega] at r4 v4
          have s4 := v4.str 22 5 9 uB Go.Proofs.Ytdebhdopginllaa.u8 uS
          rw [show max r 1 = r by omega] at hpc
          rw [← hpc] at s4 v4
          have hpcal := place_any A c n ss (pcP bs k) wr hxr (by omega)
          have Hpl := Lib.hid hpcal; clear hpcal
          clear hnext hkind hpc hgb0 hpne hwd
          have dpl := placeL_ge ss (pcP bs k)
          have m1 : Hid (n2 + 1 ≤ maxLen ∧ (n2 + 1) * 1 ≤ 140737488355328) := ⟨by simp [maxLen]; omega, by omega⟩
          have m2 : Hid (n2 + r ≤ maxLen ∧ (n2 + r) * 1 ≤ 140737488355328) := ⟨by simp [maxLen]; omega, by omega⟩
          by_cases hmem : pcP bs k ∈ ss
          · rw [if_pos hmem] at hw
            have Hw := Lib.hid hw; clear hw
            rw [decide_eq_true hmem] at dpl
            have hidx : ss.idxOf (pcP bs k) < ss.length := List.idxOf_lt_length_iff.2 hmem
            have hpv : placeL ss (pcP bs k) = (ss.idxOf (pcP bs k) : Int) := by unfold placeL; rw [if_pos hidx]
            rw [hpv] at Hpl dpl
            have Hbv : Hid (encB (UInt8.ofNat (128 + ss.idxOf (pcP bs k))) = .int .u8 (128 + (ss.idxOf (pcP bs k) : Int))) := by
              show _ = _
              unfold encB
              rw [UInt8.toNat_ofNat', Nat.mod_eq_of_lt (by omega)]
              simp
            have hi64 : ss.idxOf (pcP bs k) < 64 := by omega
            clear hpv hmem hidx hs64
            obtain ⟨ix, hix⟩ : ∃ ix, ix = ss.idxOf (pcP bs k) := ⟨_, rfl⟩
            rw [← hix] at Hpl dpl Hbv Hw hi64
            clear hix
            go_wp2_with (first
              | (go_at_call 43; refine Hcal.out.mono ?_; rintro e w2 ⟨rfl, hw2⟩; obtain rfl : wr = w2 := hw2.symm)
              | (go_at_call 41; refine Hpl.out.mono ?_; rintro e w2 ⟨rfl, hw2⟩; obtain rfl : wr = w2 := hw2.symm)
              | (at_builtin; refine wpList_pushv (enc := encB) rfl (.tmp 55) (.tmp 59) rfl uB infoB encB_one rfl rfl hown hbel.size (UInt8.ofNat (128 + ix)) _ Hbv.out rfl m1.out.1 m1.out.2 ?_; intro A6 c6 W6 ho6 hb6))
            go_roundw
            case rel => exact ⟨k + 1, A6, n2 + 1, c6, hk', by rw [hn1.out]; go_num, rfl, by rw [Hw.out]; exact ho6, hbel.trans hb6⟩
            case measure => simp [intOf]; omega
          · rw [if_neg hmem] at hw
            have Hw := Lib.hid hw; clear hw
            rw [decide_eq_false hmem] at dpl
            clear hmem
            have hv4 := v4.1
            have Hv4 := Lib.hid hv4; clear hv4
            go_wp2_with (first
              | (go_at_call 43; refine Hcal.out.mono ?_; rintro e w2 ⟨rfl, hw2⟩; obtain rfl : wr = w2 := hw2.symm)
              | (go_at_call 41; refine Hpl.out.mono ?_; rintro e w2 ⟨rfl, hw2⟩; obtain rfl : wr = w2 := hw2.symm)
              | (at_builtin; refine wpList_app (enc := encB) rfl (.tmp 61) (.tmp 65) rfl uB infoB encB_one rfl rfl hown hbel.size A4 r _ (pcP bs k) 0 Hv4.out v4.2.2 rfl m2.out.1 m2.out.2 ?_; intro A6 c6 W6 ho6 hb6 hg6))
            go_roundw
            case rel => exact ⟨k + 1, A6, n2 + r, c6, hk', by rw [hn1.out]; go_num, rfl, by rw [Hw.out]; exact ho6, hbel.trans hb6⟩
            case measure => simp [intOf]; omega
      · have hkl : k = (piecesL bs).length := by
          rcases Nat.lt_or_ge k (piecesL bs).length with h | h
          · have := pieces_ne h
            rw [ne_eq, List.drop_eq_nil_iff, Hl.out] at this
            omega
          · omega
        have hwl : Hid (codeL ss bs = codeTo ss bs k) := by show _ = _; unfold codeL; rw [hkl]
        have hcl := codeTo_len (ws := ss) hk
        rw [hown.length] at hcl
        clear hkl
        have d0 : decide (((stP bs k : Nat) : Int) < (m : Int)) = false := by simp; omega
        have d0' : decide (stP bs k < m) = false := by simp; omega
        have d1 : decide ((65536 : Int) < (n2 : Int)) = false := by simp; omega
        have d1' : decide (65536 < n2) = false := by simp; omega
        go_wp2_with fail
        go_ret2
        rw [hR.out.1, hR.out.2, hwl.out]
        exact RetBytes.mk rfl hown.bytesB (hb1.trans (hbel.mono hb1.size))
  · rw [show ((checkL ss : Nat) : Int) = _ from rfl] at hcal
    have Hcal := Lib.hid hcal; clear hcal
    have hR : Hid ((codeR ss bs).1 = [] ∧ (codeR ss bs).2 = checkL ss) := by show _ ∧ _; unfold codeR; rw [if_neg hc]; exact ⟨rfl, rfl⟩
    have d0 : (((checkL ss : Nat) : Int) != 0) = true := by simp; exact hc
    clear hc
    go_enter Try.func14, Try.ntmps14
    go_wp2_with fail
    refine Hcal.out.mono ?_
    rintro e w1 ⟨rfl, hb1⟩
    go_wp2_with fail
    go_ret2
    rw [hR.out.1, hR.out.2]
    exact RetBytes.err rfl hb1
end Go.Proofs.Ytdebhdopginllaa
