/- Contracts: suffix.Check, slices.Compare, suffix.search, the closures of Find, suffix.Find. -/
import Derived.Test.YtkndcbnajkiceaaWi
import Derived.Test.YtkndcbnajkiceaaWe
namespace Go.Proofs.Ytkndcbnajkiceaa
open Go.RowKit Go.Proofs
set_option linter.unusedVariables false

theorem errno_u : Try.prog.underlying 25 = some (.int .i64) := by kernel_rfl

set_option maxHeartbeats 1000000 in
theorem check_any (A B : Option Addr) (c n d m : Nat) (bs : List UInt8) (zs : List Int) (w : World) (hx : Bytes w A n c bs) (hy : Ints w B m d zs) (hn : n ≤ 65536) (hm : m ≤ 65537) :
    Calls Try.prog 16 #[.slice A n c, .slice B m d] w fun e w' => e = .returned (.int .i64 (checkErr bs zs)) ∧ Below w.heap.size w w' := by
  have hsort := sort_any A c n bs w hx hn
  have Hsort := Lib.hid hsort; clear hsort
  have Hx := Lib.hid hx.1
  have Hy := Lib.hid hy.1
  go_enter Try.func16, Try.ntmps16
  go_wp2_with fail
  refine Hsort.out.mono ?_
  rintro e w1 ⟨A1, n1, c1, rfl, hs1, hb1⟩
  obtain rfl : n1 = n + 1 := by have := hs1.1; rw [sortL_length, Hx.out] at this; exact this.symm
  have hy1 := hy.below hb1
  by_cases h1 : m = n + 1
  · have d1 : ((m : Int) != ((n : Int) + 1)) = false := by simp; omega
    have d1' : ((m : Int) != (((n + 1 : Nat)) : Int)) = false := by simp; omega
    have H1 := Lib.hid h1; clear h1
    have hranks := ranks_any B d m zs w1 hy1 hm
    have Hranks := Lib.hid hranks; clear hranks
    have he : ranksErr zs = permErr zs := by unfold ranksErr; rw [if_neg (by have := Hy.out; have := H1.out; omega)]
    have He := Lib.hid he; clear he
    go_wp2_with fail
    refine Hranks.out.mono ?_
    rintro e w2 ⟨A2, n2, c2, rfl, hs2, hb2⟩
    have hy2 := hy1.below hb2
    have hs3 := hs1.below hb2
    have hb3 := hb1.trans (hb2.mono hb1.size)
    by_cases hp : permErr zs = 0
    · have d2 : (ranksErr zs != 0) = false := by rw [He.out]; simp [hp]
      have Hp := Lib.hid hp; clear hp
      have heq := equal_any B A1 d c1 m (n + 1) zs (sortL bs) w2 hy2 hs3 (by omega) (by omega)
      have Heq := Lib.hid heq; clear heq
      have hasc := ascB_iff (bs := bs) (zs := zs) (by have := Hx.out; have := Hy.out; have := H1.out; omega) Hp.out
      have Hasc := Lib.hid hasc; clear hasc
      have hce : checkErr bs zs = if ascB bs zs then 0 else 29 := by
        unfold checkErr
        rw [if_neg (by have := Hx.out; omega), if_neg (by have := Hx.out; have := Hy.out; have := H1.out; omega), if_neg (by have := Hp.out; omega)]
      have Hce := Lib.hid hce; clear hce
      by_cases hz : zs = sortL bs
      · have d3 : decide (zs = sortL bs) = true := by simp [hz]
        have hfin : Hid (checkErr bs zs = 0) := by show _ = _; rw [Hce.out, Hasc.out, d3]; rfl
        clear hz
        go_wp2_with fail
        refine Heq.out.mono ?_
        rintro e w3 ⟨rfl, hd3⟩
        go_wp2_with fail
        go_ret
        exact ⟨ret_int hfin.out.symm, hb3.trans (Drawn.below hd3 _)⟩
      · have d3 : decide (zs = sortL bs) = false := by simp [hz]
        have hfin : Hid (checkErr bs zs = 29) := by show _ = _; rw [Hce.out, Hasc.out, d3]; rfl
        clear hz
        go_wp2_with fail
        refine Heq.out.mono ?_
        rintro e w3 ⟨rfl, hd3⟩
        go_wp2_with fail
        go_ret
        exact ⟨ret_int hfin.out.symm, hb3.trans (Drawn.below hd3 _)⟩
    · have d2 : (ranksErr zs != 0) = true := by rw [He.out]; simp [hp]
      have hfin : Hid (checkErr bs zs = ranksErr zs) := by
        show _ = _
        unfold checkErr
        rw [if_neg (by have := Hx.out; omega), if_neg (by have := Hx.out; have := Hy.out; have := H1.out; omega), if_pos hp, He.out]
      clear hp
      go_wp2_with fail
      go_ret
      exact ⟨ret_int hfin.out.symm, hb3⟩
  · have d1 : ((m : Int) != ((n : Int) + 1)) = true := by simp; omega
    have d1' : ((m : Int) != (((n + 1 : Nat)) : Int)) = true := by simp; omega
    have hfin : Hid (checkErr bs zs = 6) := by
      show _ = _
      unfold checkErr
      rw [if_neg (by have := Hx.out; omega), if_pos (by have := Hx.out; have := Hy.out; omega)]
    go_wp2_with fail
    go_ret
    exact ⟨ret_int hfin.out.symm, hb1⟩

set_option maxHeartbeats 400000 in
theorem compareB_any (x y : Int) (w : World) : Calls Try.prog 46 #[.int .u8 x, .int .u8 y] w fun e w' => e = .returned (.int .i64 (cmpI x y)) ∧ w' = w := by
  have n1 : (x != x) = false := by simp
  have n2 : (y != y) = false := by simp
  by_cases h1 : x < y
  · have hf : Hid (cmpI x y = -1) := by show _ = _; unfold cmpI; rw [if_pos h1]
    have d1 : decide (x < y) = true := by simpa using h1
    go_enter Try.func46, Try.ntmps46
    go_wp2
    go_ret
    exact ⟨ret_int hf.out.symm, rfl⟩
  · have d1 : decide (x < y) = false := by simpa using h1
    by_cases h2 : y < x
    · have hf : Hid (cmpI x y = 1) := by show _ = _; unfold cmpI; rw [if_neg h1, if_pos h2]
      have d2 : decide (y < x) = true := by simpa using h2
      go_enter Try.func46, Try.ntmps46
      go_wp2
      go_ret
      exact ⟨ret_int hf.out.symm, rfl⟩
    · have hf : Hid (cmpI x y = 0) := by show _ = _; unfold cmpI; rw [if_neg h1, if_neg h2]
      have d2 : decide (y < x) = false := by simpa using h2
      go_enter Try.func46, Try.ntmps46
      go_wp2
      go_ret
      exact ⟨ret_int hf.out.symm, rfl⟩

/-- the comparison of two byte strings. -/
def cmpL : List UInt8 → List UInt8 → Int
  | [], [] => 0
  | [], _ :: _ => -1
  | _ :: _, [] => 1
  | a :: x, b :: y => if a = b then cmpL x y else if a.toNat < b.toNat then -1 else 1
theorem cmpL_neg : ∀ x y : List UInt8, cmpL x y < 0 ↔ less x y = true
  | [], [] => by simp [cmpL, less_nil]
  | [], _ :: _ => by simp [cmpL, nil_less]
  | _ :: _, [] => by simp [cmpL, less_nil]
  | a :: x, b :: y => by
    have ih := cmpL_neg x y
    rw [less_cons, cmpL]
    by_cases e : a = b
    · subst e; rw [if_pos rfl, ih]; simp
    · rw [if_neg e]
      by_cases h : a.toNat < b.toNat
      · rw [if_pos h]; simp [h]
      · rw [if_neg h]; simp [h, e]
theorem cmpL_zero : ∀ x y : List UInt8, cmpL x y = 0 ↔ x = y
  | [], [] => by simp [cmpL]
  | [], _ :: _ => by simp [cmpL]
  | _ :: _, [] => by simp [cmpL]
  | a :: x, b :: y => by
    have ih := cmpL_zero x y
    rw [cmpL]
    by_cases e : a = b
    · subst e; rw [if_pos rfl, ih]; simp
    · rw [if_neg e]
      by_cases h : a.toNat < b.toNat
      · rw [if_pos h]; simp [e]
      · rw [if_neg h]; simp [e]
theorem gb_get {bs : List UInt8} {i : Nat} (h : i < bs.length) : gb bs i = bs[i].toNat := by simp [gb, List.getD, h]
theorem cmpL_skip {x y : List UInt8} : ∀ {k : Nat}, k ≤ x.length → k ≤ y.length → (∀ i, i < k → gb x i = gb y i) → cmpL x y = cmpL (x.drop k) (y.drop k)
  | 0, _, _, _ => by simp
  | k + 1, hx, hy, h => by
    rw [cmpL_skip (k := k) (by omega) (by omega) (fun i hi => h i (by omega))]
    have h1 := h k (by omega)
    rw [gb_get (by omega), gb_get (by omega)] at h1
    rw [List.drop_eq_getElem_cons (by omega : k < x.length), List.drop_eq_getElem_cons (by omega : k < y.length), cmpL, if_pos (UInt8.toNat_inj.1 (by omega))]
theorem cmpL_at {x y : List UInt8} {k : Nat} (hx : k < x.length) (hy : k < y.length) (h : ∀ i, i < k → gb x i = gb y i) (hne : gb x k ≠ gb y k) : cmpL x y = cmpI (gb x k) (gb y k) := by
  rw [cmpL_skip (by omega) (by omega) h, List.drop_eq_getElem_cons hx, List.drop_eq_getElem_cons hy, cmpL]
  rw [gb_get hx, gb_get hy] at *
  rw [if_neg (fun e => hne (by rw [e]))]
  unfold cmpI
  by_cases h : x[k].toNat < y[k].toNat
  · rw [if_pos h, if_pos (by omega)]
  · rw [if_neg h, if_neg (by omega), if_pos (by omega)]
theorem cmpL_gt {x y : List UInt8} {k : Nat} (hx : k < x.length) (hy : y.length = k) (h : ∀ i, i < k → gb x i = gb y i) : cmpL x y = 1 := by
  rw [cmpL_skip (k := k) (by omega) (by omega) h, List.drop_eq_getElem_cons hx, show y.drop k = [] from List.drop_of_length_le (by omega)]
  rfl
theorem cmpL_end {x y : List UInt8} (hl : x.length ≤ y.length) (h : ∀ i, i < x.length → gb x i = gb y i) : cmpL x y = if x.length < y.length then -1 else 0 := by
  rw [cmpL_skip (k := x.length) (Nat.le_refl _) hl h, List.drop_of_length_le (Nat.le_refl _)]
  by_cases h' : x.length < y.length
  · rw [if_pos h', List.drop_eq_getElem_cons h']
    rfl
  · rw [if_neg h', List.drop_of_length_le (by omega)]
    rfl

theorem cmpI_ne {x y : Int} (h : x ≠ y) : cmpI x y ≠ 0 := by
  unfold cmpI
  by_cases h1 : x < y
  · rw [if_pos h1]; omega
  · rw [if_neg h1, if_pos (by omega)]; omega

set_option maxHeartbeats 1000000 in
theorem compareS_any (A B : Option Addr) (c d n m : Nat) (xs ys : List UInt8) (w : World) (hx : Bytes w A n c xs) (hy : Bytes w B m d ys) (hn : n ≤ 1000000000) (hm : m ≤ 1000000000) :
    Calls Try.prog 36 #[.slice A n c, .slice B m d] w fun e w' => e = .returned (.int .i64 (cmpL xs ys)) ∧ w' = w := by
  have Hx := Lib.hid hx.1
  have Hy := Lib.hid hy.1
  go_enter Try.func36, Try.ntmps36
  go_wp2_with fail
  go_loop [11] (fun i => ∃ k : Nat, k ≤ n ∧ k ≤ m ∧ i = .int .i64 (k : Int) ∧ Hid (∀ j, j < k → gb xs j = gb ys j)) (fun i => n - (intOf i).toNat)
  case atStart => exact ⟨0, by omega, by omega, rfl, fun i hi => absurd hi (by omega)⟩
  case round =>
    obtain ⟨k, hk, hkm, rfl, HK⟩ := hrel
    by_cases hlt : k < n
    · obtain ⟨b, off, rfl, hb, hcell⟩ := hx.get hlt
      have c1 := hcell k hlt
      clear hcell
      by_cases hltm : k < m
      · have d1 : decide ((m : Int) ≤ (k : Int)) = false := by simp; omega
        obtain ⟨b', off', rfl, hb', hcell'⟩ := hy.get hltm
        have c2 := hcell' k hltm
        clear hcell'
        by_cases he : gb xs k = gb ys k
        · have hc0 : cmpI (gb xs k) (gb ys k) = 0 := by unfold cmpI; rw [he]; simp
          have d2 : (cmpI (gb xs k) (gb ys k) != 0) = false := by simp [hc0]
          have He := Lib.hid he; clear he hc0
          go_wp2_with (go_at_call 46; refine (compareB_any _ _ _).mono ?_; rintro e w' ⟨rfl, rfl⟩)
          go_round
          case rel => exact ⟨k + 1, by omega, by omega, by go_num, fun i hi => by
            rcases Nat.lt_or_ge i k with h | h
            · exact HK.out i h
            · obtain rfl : i = k := by omega
              exact He.out⟩
          case measure => simp [intOf]; omega
        · have hc0 : cmpI (gb xs k) (gb ys k) ≠ 0 := cmpI_ne he
          have d2 : (cmpI (gb xs k) (gb ys k) != 0) = true := by simp [hc0]
          have hfin := Lib.hid (cmpL_at (by have := Hx.out; omega) (by have := Hy.out; omega) HK.out he)
          clear hc0 he
          go_wp2_with (go_at_call 46; refine (compareB_any _ _ _).mono ?_; rintro e w' ⟨rfl, rfl⟩)
          go_ret
          exact ⟨ret_int hfin.out.symm, rfl⟩
      · have d1 : decide ((m : Int) ≤ (k : Int)) = true := by simp; omega
        have hfin := Lib.hid (cmpL_gt (x := xs) (y := ys) (k := k) (by have := Hx.out; omega) (by have := Hy.out; omega) HK.out)
        go_wp2_with fail
        go_ret
        exact ⟨ret_int hfin.out.symm, rfl⟩
    · have hfin := Lib.hid (cmpL_end (x := xs) (y := ys) (by have := Hx.out; have := Hy.out; omega) (fun i hi => HK.out i (by have := Hx.out; omega)))
      by_cases h2 : n < m
      · have d1 : decide ((n : Int) < (m : Int)) = true := by simp; omega
        go_wp2_with fail
        go_ret
        exact ⟨ret_int (by rw [hfin.out, if_pos (by have := Hx.out; have := Hy.out; omega)]), rfl⟩
      · have d1 : decide ((n : Int) < (m : Int)) = false := by simp; omega
        go_wp2_with fail
        go_ret
        exact ⟨ret_int (by rw [hfin.out, if_neg (by have := Hx.out; have := Hy.out; omega)]), rfl⟩

set_option maxHeartbeats 1000000 in
theorem search_any (fv : Nat) (cap : Array Value) (rows k : Nat) (p : Nat → Bool) (w : World) (eg : ∀ args w, (callFunc fv args).run Try.prog w = .ok (.enter fv args) w)
    (hp : ∀ W, Drawn w W → ∀ m : Nat, m < rows → Calls Try.prog fv (#[.int .i64 (m : Int)] ++ cap) W fun e w' => e = .returned (.bool (p m)) ∧ Drawn W w')
    (hr : rows ≤ 1000000) (hk : k ≤ rows) (hlow : ∀ i, i < k → p i = false) (hhigh : ∀ i, k ≤ i → i < rows → p i = true) :
    Calls Try.prog 38 #[.int .i64 (rows : Int), .func (.func fv) #[] cap] w fun e w' => e = .returned (.int .i64 (k : Int)) ∧ Drawn w w' := by
  have Hp := Lib.hid hp; clear hp
  have HL := Lib.hid hlow; clear hlow
  have HH := Lib.hid hhigh; clear hhigh
  go_enter Try.func38, Try.ntmps38
  go_wp2_with fail
  go_loopw [5, 6] (fun a b wr => ∃ l h : Nat, a = .int .i64 (l : Int) ∧ b = .int .i64 (h : Int) ∧ l ≤ k ∧ k ≤ h ∧ h ≤ rows ∧ Drawn w wr) (fun a b _ => (intOf b).toNat - (intOf a).toNat)
  case atStart => exact ⟨0, rows, rfl, rfl, by omega, hk, by omega, Drawn.refl _⟩
  case round =>
    obtain ⟨l, h, rfl, rfl, hl, hh, hhr, hdr⟩ := hrel
    by_cases hlt : l < h
    · have hcal := Hp.out wr hdr ((l + h) / 2) (by omega)
      have Hcal := Lib.hid hcal; clear hcal
      cases hb : p ((l + h) / 2) with
      | true =>
        have hkm : k ≤ (l + h) / 2 := by
          rcases Nat.lt_or_ge ((l + h) / 2) k with h1 | h1
          · have := HL.out _ h1; rw [hb] at this; cases this
          · exact h1
        have Hb := Lib.hid hb; clear hb
        go_wp2_with fail
        rw [show (((l : Int) + (h : Int)) / 2) = (((l + h) / 2 : Nat) : Int) by omega]
        refine Hcal.out.mono ?_
        rintro e w2 ⟨rfl, hd2⟩
        rw [Hb.out]
        go_wp2_with fail
        go_roundw
        case rel => exact ⟨l, (l + h) / 2, rfl, rfl, by omega, by omega, by omega, hdr.trans hd2⟩
        case measure => simp [intOf]; omega
      | false =>
        have hkm : (l + h) / 2 < k := by
          rcases Nat.lt_or_ge ((l + h) / 2) k with h1 | h1
          · exact h1
          · have := HH.out _ h1 (by omega); rw [hb] at this; cases this
        have Hb := Lib.hid hb; clear hb
        go_wp2_with fail
        rw [show (((l : Int) + (h : Int)) / 2) = (((l + h) / 2 : Nat) : Int) by omega]
        refine Hcal.out.mono ?_
        rintro e w2 ⟨rfl, hd2⟩
        rw [Hb.out]
        go_wp2_with fail
        go_roundw
        case rel => exact ⟨(l + h) / 2 + 1, h, by go_num, rfl, by omega, by omega, by omega, hdr.trans hd2⟩
        case measure => simp [intOf]; omega
    · obtain rfl : l = k := by omega
      go_wp2_with fail
      go_ret
      exact ⟨rfl, hdr⟩
end Go.Proofs.Ytkndcbnajkiceaa
