/- Inverse of the program and of the reference. -/
import Derived.Test.YtdebhdopginllaaDy
namespace Go.Proofs.Ytdebhdopginllaa
open Go.RowKit Go.Proofs Go.Sort
set_option linter.unusedVariables false

section
variable {α : Type} {enc : α → Value} {P : Program} {w : World} {B : Nat} {e t : TypeId} {A : Option Addr} {n c : Nat} {xs : List α} {zero : α} {bytes : Nat}
  {ops : Array Oper} {rest : List Oper} {o : Oper} {a : Act} {K : Act → World → Prop} {Q : Exit → Act → World → Prop} {E : Prop}
theorem wpList_pushg (hgd : o.guard = none) (s x : Operand) (ho : o.op = .call { callee := .builtin .append, args := #[s, x], argTypes := #[t, t] })
    (ht : P.underlying t = some (.slice e)) (hi : (P.info? e).map (fun i => (i.zero, i.size, i.bytes)) = some (some (enc zero), 1, bytes)) (h1 : ∀ x, (enc x).oneCell' = true) (hz : (enc zero).cells.size = 1)
    (hs : a.eval s = .slice A n c) (hown : Own enc w B e A n c xs) (hB : B ≤ w.heap.size) (y : α)
    (hx : a.eval x = .slice (some ⟨w.heap.size, 0, none⟩) 1 1) (hl : n + 1 ≤ maxLen) (hby : (n + 1) * bytes ≤ 140737488355328)
    (h : ∀ A2 c2 w', Own enc w' B e A2 (n + 1) c2 (xs ++ [y]) → Below B w w' → w.grownBy w' (Value.slice A n c).ownBlock → wpList P ops Q rest (a.put o.dst (.slice A2 (n + 1) c2)) w') : wpList P ops Q (o :: rest) a (w.alloc (.cells #[enc y] e)) := by
  refine wpList_plain hgd fun K hK => ?_
  obtain ⟨A2, c2, w', hrun, h2, h3, h4⟩ := run_append_own_one (P := P) o.type ht hi h1 hz hown hB y hl hby
  unfold Oper.wp execOp
  simp only [ho, resolve, invoke, builtin, Sem.run_bind, Sem.run_pure, Result.andThen_ok, List.map_toArray, List.map_cons, List.map_nil, hs, hx, hrun]
  exact hK _ _ (h A2 c2 w' h2 h3 (grownBy.trans' (World.grownBy_alloc w _ _) h4))
end
theorem own_block_lt {α : Type} {enc : α → Value} {w : World} {B : Nat} {e : TypeId} {A : Option Addr} {n c : Nat} {xs : List α} (h : Own enc w B e A n c xs) : ∀ g, (Value.slice A n c).ownBlock = some g → g < w.heap.size := fun g hg => by
  rcases h.2 with ⟨h1, _⟩ | ⟨g', cap, cur, h1, _, h3, _⟩
  · rw [h1] at hg; cases hg
  · rw [h1] at hg
    injection hg with hg
    have hg' : g' = g := hg
    subst hg'
    exact (Array.getElem?_eq_some_iff.1 h3).1
/-- what lies in newer blocks is kept by an append to an older one. -/
theorem Own.past {α : Type} {enc : α → Value} {X Y : World} {B N : Nat} {e : TypeId} {A : Option Addr} {n c : Nat} {xs : List α} {row : Option Nat} (h : Own enc X B e A n c xs) (hg : X.grownBy Y row) (hrow : ∀ g, row = some g → g < B) : Own enc Y B e A n c xs :=
  h.keep fun g o hB ho _ => (hg.block g (Array.getElem?_eq_some_iff.1 ho).1 (fun e => by have := hrow g e.symm; omega)).trans ho

theorem short_snoc {ws : List (List UInt8)} {s : List UInt8} (h : ∀ s ∈ ws, s.length ≤ 65536) (hs : s.length ≤ 65536) : ∀ t ∈ ws ++ [s], t.length ≤ 65536 := fun t ht => by
  rcases List.mem_append.1 ht with h1 | h1
  · exact h t h1
  · rw [List.mem_singleton] at h1; subst h1; exact hs
def readL : Nat → List UInt8 → List (List UInt8) → List (List UInt8) × List UInt8 × Nat
  | 0, r, ws => (ws, r, 0)
  | k + 1, r, ws => if (textL r).2.2 ≠ 0 then ([], [], (textL r).2.2) else readL k (textL r).2.1 (ws ++ [(textL r).1])
def inverseL (src : List UInt8) : List UInt8 × Nat :=
  if (intL src).2.2 ≠ 0 then ([], (intL src).2.2)
  else if 64 < (intL src).1 then ([], 6)
  else if (readL (intL src).1 (intL src).2.1 []).2.2 ≠ 0 then ([], (readL (intL src).1 (intL src).2.1 []).2.2)
  else uncR (readL (intL src).1 (intL src).2.1 []).1 (readL (intL src).1 (intL src).2.1 []).2.1
theorem textL_len (r : List UInt8) : (textL r).2.1.length ≤ r.length ∧ (textL r).1.length ≤ 65536 := by
  have := intL_len r
  unfold textL
  repeat' split
  all_goals simp
  omega
theorem textL_errv (r : List UInt8) : (textL r).2.2 = 0 ∨ (textL r).2.2 = 3 ∨ (textL r).2.2 = 5 ∨ (textL r).2.2 = 9 := by
  have := intL_errv r
  unfold textL
  repeat' split
  all_goals simp
  omega

set_option maxRecDepth 100000 in
set_option maxHeartbeats 4000000 in
theorem inverseP_any (A : Option Addr) (m c : Nat) (src : List UInt8) (w : World) (hx : Bytes w A m c src) (hm : m ≤ 10000) (hrest : (readL (intL src).1 (intL src).2.1 []).2.1.length ≤ 2000) :
    Calls Try.prog 22 #[.slice A m c] w (RetBytes w (inverseL src).1 ((inverseL src).2 : Nat)) := by
  have Hl := Lib.hid hx.1
  have h1 := Lib.hid (intP_any A m c src w hx (by omega))
  have hlen := intL_len src
  rw [Hl.out] at hlen
  have hval := intL_val src
  have e0 : Hid (inverseL src = if (intL src).2.2 ≠ 0 then ([], (intL src).2.2) else if 64 < (intL src).1 then ([], 6) else if (readL (intL src).1 (intL src).2.1 []).2.2 ≠ 0 then ([], (readL (intL src).1 (intL src).2.1 []).2.2) else uncR (readL (intL src).1 (intL src).2.1 []).1 (readL (intL src).1 (intL src).2.1 []).2.1) := rfl
  have hee := intL_errv src
  obtain ⟨x, hxx⟩ : ∃ x, x = intL src := ⟨_, rfl⟩
  rw [← hxx] at h1 hlen hval e0 hrest hee
  clear hxx
  obtain ⟨n, r0, k⟩ := x
  simp only at hlen hval e0 hrest hee
  have d65 : decide ((65536 : Int) < (m : Int)) = false := by simp; omega
  by_cases hk : k = 0
  · subst hk
    rw [if_neg (by simp)] at e0
    clear hee
    by_cases hbig : 64 < n
    · rw [if_pos hbig] at e0
      have d1 : decide ((64 : Int) < (n : Int)) = true := by simp; omega
      have d1' : decide (64 < n) = true := by simp; omega
      clear hrest
      go_enter Try.func22, Try.ntmps22
      go_wp2_with fail
      refine h1.out.mono ?_
      rintro e w1 ⟨A1, m1, c1, rfl, hs1, hb1⟩
      go_wp2_with fail
      go_ret2
      rw [e0.out]
      exact RetBytes.err rfl hb1
    · rw [if_neg hbig] at e0
      have d1 : decide ((64 : Int) < (n : Int)) = false := by simp; omega
      have d1' : decide (64 < n) = false := by simp; omega
      have Hrest := Lib.hid hrest; clear hrest
      go_enter Try.func22, Try.ntmps22
      go_wp2_with fail
      refine h1.out.mono ?_
      rintro e w1 ⟨A1, m1, c1, rfl, hs1, hb1⟩
      have hm1 : m1 ≤ m := by rw [← hs1.length]; exact hlen
      clear h1
      go_wp2_with fail
      go_loopw [0, 6, 7, 8, 9, 25] (fun vb vo _ _ _ vi wr => ∃ (k : Nat) (Ab : Option Addr) (nb cb : Nat) (r : List UInt8) (Bb : Nat) (A2 : Option Addr) (c2 : Nat) (ws : List (List UInt8)), k ≤ n ∧ vi = .int .i64 (k : Int) ∧ vb = .slice Ab nb cb ∧ nb ≤ m ∧ Own encB wr Bb 5 Ab nb cb r ∧ vo = .slice A2 k c2 ∧ Own encS wr w1.heap.size 9 A2 k c2 ws ∧ Hid (∀ s ∈ ws, s.length ≤ 65536) ∧ Hid (readL n r0 [] = readL (n - k) r ws) ∧ Below w1.heap.size w1 wr) (fun _ _ _ _ _ vi _ => n - (intOf vi).toNat)
      case atStart => exact ⟨0, A1, m1, c1, r0, w.heap.size, none, 0, [], Nat.zero_le _, rfl, rfl, hm1, hs1, rfl, Own.nil _ _ _ _, (fun s hs => by cases hs), rfl, Below.refl _ _⟩
      case round =>
        obtain ⟨k, Ab, nb, cb, r, Bb, A2, c2, ws, hk, rfl, rfl, hnb, hob, rfl, how, HW, HR, hbel⟩ := hrel
        by_cases hlt : k < n
        · have dk : decide ((k : Int) < (n : Int)) = true := by simp; omega
          have dk' : decide (k < n) = true := by simp; omega
          have ht := Lib.hid (textP_any Ab nb cb r wr hob.bytesB (by omega))
          have hsel : readL (n - k) r ws = if (textL r).2.2 ≠ 0 then ([], [], (textL r).2.2) else readL (n - (k + 1)) (textL r).2.1 (ws ++ [(textL r).1]) := by
            rw [show n - k = (n - (k + 1)) + 1 by omega, readL]
          obtain ⟨htl1, htl2⟩ := textL_len r
          have hlr := Lib.hid hob.length
          rw [hlr.out] at htl1
          obtain ⟨y, hyy⟩ : ∃ y, y = textL r := ⟨_, rfl⟩
          rw [← hyy] at ht hsel htl1 htl2
          clear hyy
          obtain ⟨s, r2, k2⟩ := y
          simp only at hsel htl1 htl2
          by_cases hk2 : k2 = 0
          · subst hk2
            rw [if_neg (by simp)] at hsel
            have HR2 : Hid (readL n r0 [] = readL (n - (k + 1)) r2 (ws ++ [s])) := by show _ = _; rw [HR.out, hsel]
            clear hsel
            have m1' : Hid (k + 1 ≤ maxLen ∧ (k + 1) * 16 ≤ 140737488355328) := ⟨by simp [maxLen]; omega, by omega⟩
            have hgl := Lib.hid (own_block_lt how)
            go_wp2_with fail
            refine ht.out.mono ?_
            rintro e w2 ⟨A3, m3, c3, rfl, hs3, hb3⟩
            have how3 := how.below hb3
            have hB3 : Hid (w1.heap.size ≤ w2.heap.size) := Nat.le_trans hbel.size hb3.size
            have hl3 : Hid (m3 ≤ nb) := by show _ ≤ _; rw [← hs3.length]; exact htl1
            go_wp2_with (at_builtin; refine wpList_pushg (enc := encS) rfl (.tmp 36) (.tmp 38) rfl uSS infoS encS_one rfl rfl how3 hB3.out s rfl m1'.out.1 m1'.out.2 ?_; intro A6 c6 W6 ho6 hb6 hg6)
            have hs6 := hs3.past (N := 0) hg6 (fun g hg => hgl.out g hg)
            go_roundw
            case rel => exact ⟨k + 1, A3, m3, c3, r2, wr.heap.size, A6, c6, ws ++ [s], by omega, by go_num, rfl, by have := hl3.out; omega, hs6, rfl, ho6, (short_snoc HW.out htl2), HR2, hbel.trans ((hb3.mono hbel.size).trans hb6)⟩
            case measure => simp [intOf]; omega
          · rw [if_pos hk2] at hsel
            have hfin : Hid (inverseL src = ([], k2)) := by
              show _ = _
              rw [e0.out, if_pos (by rw [HR.out, hsel]; exact hk2), HR.out, hsel]
            have d2 : ((k2 : Int) != 0) = true := by simp; omega
            clear hsel hk2
            go_wp2_with fail
            refine ht.out.mono ?_
            rintro e w2 ⟨A3, m3, c3, rfl, hs3, hb3⟩
            go_wp2_with fail
            go_ret2
            rw [hfin.out]
            exact RetBytes.err rfl (hb1.trans ((hbel.trans (hb3.mono hbel.size)).mono hb1.size))
        · have dk : decide ((k : Int) < (n : Int)) = false := by simp; omega
          have dk' : decide (k < n) = false := by simp; omega
          obtain rfl : n = k := by omega
          have hsel : readL n r0 [] = (ws, r, 0) := by rw [HR.out, Nat.sub_self]; rfl
          have hfin : Hid (inverseL src = uncR ws r) := by
            show _ = _
            rw [e0.out, hsel]
            rw [if_neg (by simp)]
          have hnb2 : nb ≤ 2000 := by
            have := Hrest.out
            rw [hsel] at this
            rw [← hob.length]; exact this
          clear hsel
          have hu := uncodeP_any A2 Ab c2 cb n nb ws r wr how.strs hob.bytesB (by omega) (fun s hs => by have := HW.out s hs; omega) hnb2
          rw [← hfin.out] at hu
          have Hu := Lib.hid hu; clear hu
          go_wp2_with fail
          refine Hu.out.mono ?_
          rintro e w2 ⟨A3, m3, c3, rfl, hs3, hb3⟩
          go_wp2_with fail
          go_ret2
          exact RetBytes.mk rfl hs3 (hb1.trans ((hbel.trans (hb3.mono hbel.size)).mono hb1.size))
  · rw [if_pos hk] at e0
    have d1 : ((k : Int) != 0) = true := by simp; omega
    clear hk hee hrest
    go_enter Try.func22, Try.ntmps22
    go_wp2_with fail
    refine h1.out.mono ?_
    rintro e w1 ⟨A1, m1, c1, rfl, hs1, hb1⟩
    go_wp2_with fail
    go_ret2
    rw [e0.out]
    exact RetBytes.err rfl hb1

set_option maxRecDepth 100000 in
set_option maxHeartbeats 4000000 in
theorem inverseR_any (A : Option Addr) (m c : Nat) (src : List UInt8) (w : World) (hx : Bytes w A m c src) (hm : m ≤ 10000) (hrest : (readL (intL src).1 (intL src).2.1 []).2.1.length ≤ 2000) :
    Calls Try.prog 23 #[.slice A m c] w (RetBytes w (inverseL src).1 ((inverseL src).2 : Nat)) := by
  have Hl := Lib.hid hx.1
  have h1 := Lib.hid (intR_any A m c src w hx (by omega))
  have hlen := intL_len src
  rw [Hl.out] at hlen
  have hval := intL_val src
  have e0 : Hid (inverseL src = if (intL src).2.2 ≠ 0 then ([], (intL src).2.2) else if 64 < (intL src).1 then ([], 6) else if (readL (intL src).1 (intL src).2.1 []).2.2 ≠ 0 then ([], (readL (intL src).1 (intL src).2.1 []).2.2) else uncR (readL (intL src).1 (intL src).2.1 []).1 (readL (intL src).1 (intL src).2.1 []).2.1) := rfl
  have hee := intL_errv src
  obtain ⟨x, hxx⟩ : ∃ x, x = intL src := ⟨_, rfl⟩
  rw [← hxx] at h1 hlen hval e0 hrest hee
  clear hxx
  obtain ⟨n, r0, k⟩ := x
  simp only at hlen hval e0 hrest hee
  have d65 : decide ((65536 : Int) < (m : Int)) = false := by simp; omega
  by_cases hk : k = 0
  · subst hk
    rw [if_neg (by simp)] at e0
    clear hee
    by_cases hbig : 64 < n
    · rw [if_pos hbig] at e0
      have d1 : decide ((64 : Int) < (n : Int)) = true := by simp; omega
      have d1' : decide (64 < n) = true := by simp; omega
      clear hrest
      go_enter Try.func23, Try.ntmps23
      go_wp2_with fail
      refine h1.out.mono ?_
      rintro e w1 ⟨A1, m1, c1, rfl, hs1, hb1⟩
      go_wp2_with fail
      go_ret2
      rw [e0.out]
      exact RetBytes.err rfl hb1
    · rw [if_neg hbig] at e0
      have d1 : decide ((64 : Int) < (n : Int)) = false := by simp; omega
      have d1' : decide (64 < n) = false := by simp; omega
      have Hrest := Lib.hid hrest; clear hrest
      go_enter Try.func23, Try.ntmps23
      go_wp2_with fail
      refine h1.out.mono ?_
      rintro e w1 ⟨A1, m1, c1, rfl, hs1, hb1⟩
      have hm1 : m1 ≤ m := by rw [← hs1.length]; exact hlen
      clear h1
      go_wp2_with fail
      go_loopw [5, 7, 8, 9, 10, 11] (fun vb vo vi _ _ _ wr => ∃ (k : Nat) (Ab : Option Addr) (nb cb : Nat) (r : List UInt8) (Bb : Nat) (A2 : Option Addr) (c2 : Nat) (ws : List (List UInt8)), k ≤ n ∧ vi = .int .i64 (k : Int) ∧ vb = .slice Ab nb cb ∧ nb ≤ m ∧ Own encB wr Bb 5 Ab nb cb r ∧ vo = .slice A2 k c2 ∧ Own encS wr w1.heap.size 9 A2 k c2 ws ∧ Hid (∀ s ∈ ws, s.length ≤ 65536) ∧ Hid (readL n r0 [] = readL (n - k) r ws) ∧ Below w1.heap.size w1 wr) (fun _ _ vi _ _ _ _ => n - (intOf vi).toNat)
      case atStart => exact ⟨0, A1, m1, c1, r0, w.heap.size, none, 0, [], Nat.zero_le _, rfl, rfl, hm1, hs1, rfl, Own.nil _ _ _ _, (fun s hs => by cases hs), rfl, Below.refl _ _⟩
      case round =>
        obtain ⟨k, Ab, nb, cb, r, Bb, A2, c2, ws, hk, rfl, rfl, hnb, hob, rfl, how, HW, HR, hbel⟩ := hrel
        by_cases hlt : k < n
        · have dk : decide ((k : Int) < (n : Int)) = true := by simp; omega
          have dk' : decide (k < n) = true := by simp; omega
          have ht := Lib.hid (textR_any Ab nb cb r wr hob.bytesB (by omega))
          have hsel : readL (n - k) r ws = if (textL r).2.2 ≠ 0 then ([], [], (textL r).2.2) else readL (n - (k + 1)) (textL r).2.1 (ws ++ [(textL r).1]) := by
            rw [show n - k = (n - (k + 1)) + 1 by omega, readL]
          obtain ⟨htl1, htl2⟩ := textL_len r
          have hlr := Lib.hid hob.length
          rw [hlr.out] at htl1
          obtain ⟨y, hyy⟩ : ∃ y, y = textL r := ⟨_, rfl⟩
          rw [← hyy] at ht hsel htl1 htl2
          clear hyy
          obtain ⟨s, r2, k2⟩ := y
          simp only at hsel htl1 htl2
          by_cases hk2 : k2 = 0
          · subst hk2
            rw [if_neg (by simp)] at hsel
            have HR2 : Hid (readL n r0 [] = readL (n - (k + 1)) r2 (ws ++ [s])) := by show _ = _; rw [HR.out, hsel]
            clear hsel
            have m1' : Hid (k + 1 ≤ maxLen ∧ (k + 1) * 16 ≤ 140737488355328) := ⟨by simp [maxLen]; omega, by omega⟩
            have hgl := Lib.hid (own_block_lt how)
            go_wp2_with fail
            refine ht.out.mono ?_
            rintro e w2 ⟨A3, m3, c3, rfl, hs3, hb3⟩
            have how3 := how.below hb3
            have hB3 : Hid (w1.heap.size ≤ w2.heap.size) := Nat.le_trans hbel.size hb3.size
            have hl3 : Hid (m3 ≤ nb) := by show _ ≤ _; rw [← hs3.length]; exact htl1
            go_wp2_with (at_builtin; refine wpList_pushg (enc := encS) rfl (.tmp 40) (.tmp 42) rfl uSS infoS encS_one rfl rfl how3 hB3.out s rfl m1'.out.1 m1'.out.2 ?_; intro A6 c6 W6 ho6 hb6 hg6)
            have hs6 := hs3.past (N := 0) hg6 (fun g hg => hgl.out g hg)
            go_roundw
            case rel => exact ⟨k + 1, A3, m3, c3, r2, wr.heap.size, A6, c6, ws ++ [s], by omega, by go_num, rfl, by have := hl3.out; omega, hs6, rfl, ho6, (short_snoc HW.out htl2), HR2, hbel.trans ((hb3.mono hbel.size).trans hb6)⟩
            case measure => simp [intOf]; omega
          · rw [if_pos hk2] at hsel
            have hfin : Hid (inverseL src = ([], k2)) := by
              show _ = _
              rw [e0.out, if_pos (by rw [HR.out, hsel]; exact hk2), HR.out, hsel]
            have d2 : ((k2 : Int) != 0) = true := by simp; omega
            clear hsel hk2
            go_wp2_with fail
            refine ht.out.mono ?_
            rintro e w2 ⟨A3, m3, c3, rfl, hs3, hb3⟩
            go_wp2_with fail
            go_ret2
            rw [hfin.out]
            exact RetBytes.err rfl (hb1.trans ((hbel.trans (hb3.mono hbel.size)).mono hb1.size))
        · have dk : decide ((k : Int) < (n : Int)) = false := by simp; omega
          have dk' : decide (k < n) = false := by simp; omega
          obtain rfl : n = k := by omega
          have hsel : readL n r0 [] = (ws, r, 0) := by rw [HR.out, Nat.sub_self]; rfl
          have hfin : Hid (inverseL src = uncR ws r) := by
            show _ = _
            rw [e0.out, hsel]
            rw [if_neg (by simp)]
          have hnb2 : nb ≤ 2000 := by
            have := Hrest.out
            rw [hsel] at this
            rw [← hob.length]; exact this
          clear hsel
          have hu := uncodeR_any A2 Ab c2 cb n nb ws r wr how.strs hob.bytesB (by omega) (fun s hs => by have := HW.out s hs; omega) hnb2
          rw [← hfin.out] at hu
          have Hu := Lib.hid hu; clear hu
          go_wp2_with fail
          refine Hu.out.mono ?_
          rintro e w2 ⟨A3, m3, c3, rfl, hs3, hb3⟩
          go_wp2_with fail
          go_ret2
          exact RetBytes.mk rfl hs3 (hb1.trans ((hbel.trans (hb3.mono hbel.size)).mono hb1.size))
  · rw [if_pos hk] at e0
    have d1 : ((k : Int) != 0) = true := by simp; omega
    clear hk hee hrest
    go_enter Try.func23, Try.ntmps23
    go_wp2_with fail
    refine h1.out.mono ?_
    rintro e w1 ⟨A1, m1, c1, rfl, hs1, hb1⟩
    go_wp2_with fail
    go_ret2
    rw [e0.out]
    exact RetBytes.err rfl hb1
end Go.Proofs.Ytdebhdopginllaa
