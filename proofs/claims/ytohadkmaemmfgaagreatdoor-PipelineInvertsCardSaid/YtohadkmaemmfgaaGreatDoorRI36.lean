/- Oh Oi. -/
import Derived.Test.YtohadkmaemmfgaaGreatDoorRI23
set_option maxRecDepth 100000
set_option maxHeartbeats 4000000
namespace Go.Proofs.YtohadkmaemmfgaaGreatDoor
open Go.RowKit Go.Proofs
set_option linter.unusedVariables false
set_option linter.unusedSimpArgs false
open Bwt (Gr) in
theorem wp_region_grow {P : Program} {id : Nat} {Q : Exit → Act → World → Prop} {a : Act} {w : World} {l : List Oper} (n : Nat) (hm : P.follows .mixedOrders = true) (hB : Region.lexTailB .any l.toArray n = true)
    (h : wpQuiet P l.toArray (fun w' => ∃ g : Gr w, w' = g.w) (fun a' => ∀ w', (∃ g : Gr w, w' = g.w) → wpList P l.toArray Q (l.drop n) a' w') (l.take n) a) : (Code.region id l.toArray true).wp P Q a w := by
  simp only [Region.lexTailB, Bool.and_eq_true, decide_eq_true_eq] at hB
  obtain ⟨⟨⟨⟨hsel, hn⟩, hs⟩, hc⟩, hlex⟩ := hB
  have hn' : n < l.length := by simpa using hn
  have htl : (l.take n).length = n := by simp; omega
  have hdl : (l.drop n).length = l.toArray.size - n := by simp
  have inv0 : HeadInv .any l.toArray n (Array.replicate l.toArray.size false) :=
    ⟨by simp, fun j oj _ hl => (by rw [getD_replicate_false] at hl; cases hl), fun t _ ht => getD_in (by simpa using ht) (getD_replicate_false _ _)⟩
  have H := anyQL_lex (md := .any) (g := l.toArray.size - n) hsel hs hc hn (l.take n) 0 _ a (fun j hj => by
    have hj' : j < n := by rw [htl] at hj; exact hj
    simp [hj']) (by simpa using htl) inv0 (by rw [htl]; exact hlex) h
  refine wp_region_any hm ?_
  have := any_of_head (Q' := Q) (g := l.toArray.size - n) (fun listed a' w' hw' hL => by
    have := wpAny_of_seq (md := .any) (Q' := Q) (l.drop n) n listed a' w' (fun j => by simp [List.getElem?_drop]) (by rw [hdl]; exact hL.1) (hL.2 w' hw')
    rwa [hdl] at this) _ _ _ { w with drawn := w.drawn + 1 } ⟨⟨_, (Drawn.drewN w 1).below _⟩, rfl⟩ H
  rw [htl, show n + (l.toArray.size - n) = l.toArray.size by omega] at this
  exact this
def SR (W : World) (g : Nat) (A : Option Addr) (n c i : Nat) : Prop := rowV W g 186 #[.slice A n c, .int .i64 ((8 * n : Nat) : Int), .int .i64 (i : Int)]
theorem SR.drawn {W W' : World} {g : Nat} {A : Option Addr} {n c i : Nat} (h : SR W g A n c i) (hd : Drawn W W') : SR W' g A n c i := ((hd.below (g + 1)).block g (Nat.lt_succ_self _)).trans h
theorem grown_below {W W' : World} (row : Option Nat) (h : Below W.heap.size W W') : W.grownBy W' row := ⟨h.os, h.tape, h.output, h.size, fun k hk _ => h.block k hk⟩
theorem grown_set {W : World} (g j : Nat) (v : Value) : W.grownBy (W.setCell ⟨g, j, none⟩ v) (some g) := ⟨rfl, rfl, rfl, by simp [World.setCell], fun k _ hk => Below.heap_setCell _ ⟨g, j, none⟩ _ k (fun e => hk (congrArg some e))⟩
theorem grown_trans {X Y Z : World} {row : Option Nat} (h : X.grownBy Y row) (k : Y.grownBy Z row) : X.grownBy Z row := ⟨k.os.trans h.os, k.tape.trans h.tape, k.output.trans h.output, Nat.le_trans h.size k.size, fun i hi hn => (k.block i (Nat.lt_of_lt_of_le hi h.size) hn).trans (h.block i hi hn)⟩
theorem left_any (g : Nat) (A : Option Addr) (n c i : Nat) (w : World) (hs : SR w g A n c i) (hn : n ≤ 65536) (hi : i ≤ 8 * n) :
    Calls Tryz.prog 221 #[.pointer (some ⟨g, 0, none⟩)] w fun e w' => e = .returned (.int .i64 ((8 * n - i : Nat) : Int)) ∧ ∃ m, w' = w.drewN m := by
  have c1 := hs.cell (j := 1) rfl
  have c2 := hs.cell (j := 2) rfl
  obtain ⟨N, hN⟩ : ∃ N, N = 8 * n := ⟨_, rfl⟩
  rw [← hN] at c1 hi ⊢
  have hN8 : N ≤ 524288 := by omega
  have HE : Hid (((N - i : Nat) : Int) = (N : Int) - (i : Int)) := by unfold Hid; omega
  rw [HE.out]
  clear hs hN
  go_enter Tryz.func221, Tryz.ntmps221
  go_wp2
  go_quiet (fail)
  go_wp2
  go_ret
  exact ⟨rfl, _, rfl⟩
theorem get_any (g : Nat) (A : Option Addr) (n c i cnt : Nat) (bs : List UInt8) (w : World) (hs : SR w g A n c i) (hx : Bytes w A n c bs) (hn : n ≤ 65536) (hi : i ≤ 8 * n) (hc : cnt ≤ 8) :
    Calls Tryz.prog 223 #[.pointer (some ⟨g, 0, none⟩), .int .i64 (cnt : Int)] w fun e w' => e = .returned (.tuple #[.int .i64 ((rdV (bitD bs) (8 * n) i cnt : Nat) : Int), .int .i64 (rdE (8 * n) i cnt)]) ∧ SR w' g A n c (i + cnt) ∧ w.grownBy w' (some g) := by
  have HC := fun gr : Bwt.Gr w => (read_any A n c i cnt bs gr.w (hx.below gr.h) hn (by omega) (by omega)).mono (fun e w' h => (⟨h.1, ⟨w', gr.h.trans (h.2.mono gr.h.size)⟩, rfl⟩ : e = _ ∧ ∃ g' : Bwt.Gr w, w' = g'.w))
  have hsg : ∀ gr : Bwt.Gr w, SR gr.w g A n c i := fun gr => (gr.h.block _ hs.lt).trans hs
  have HS := Lib.hid hsg
  have c0 : ∀ gr : Bwt.Gr w, gr.w.cell? ⟨g, 0, none⟩ = some (.slice A n c) := fun gr => (hsg gr).cell rfl
  have c1 : ∀ gr : Bwt.Gr w, gr.w.cell? ⟨g, 1, none⟩ = some (.int .i64 ((8 * n : Nat) : Int)) := fun gr => (hsg gr).cell rfl
  have c2 : ∀ gr : Bwt.Gr w, gr.w.cell? ⟨g, 2, none⟩ = some (.int .i64 (i : Int)) := fun gr => (hsg gr).cell rfl
  have hv : rdV (bitD bs) (8 * n) i cnt < 256 := by
    unfold rdV
    split
    · omega
    · have h1 := valB_lt (bitD bs) i cnt
      have h2 : 2 ^ cnt ≤ 2 ^ 8 := Nat.pow_le_pow_right (by decide) hc
      have h3 : (2 : Nat) ^ 8 = 256 := by decide
      omega
  obtain ⟨v, hvv⟩ : ∃ v, v = rdV (bitD bs) (8 * n) i cnt := ⟨_, rfl⟩
  obtain ⟨er, her⟩ : ∃ er, er = rdE (8 * n) i cnt := ⟨_, rfl⟩
  rw [← hvv, ← her] at HC
  rw [← hvv] at hv
  rw [← hvv, ← her]
  obtain ⟨N, hN⟩ : ∃ N, N = 8 * n := ⟨_, rfl⟩
  rw [← hN] at c1 hi HC
  have hN8 : N ≤ 524288 := by omega
  replace HC := Lib.hid HC
  clear hs hx hN hvv her hsg
  go_enter Tryz.func223, Tryz.ntmps223
  go_wp2
  refine wp_region_grow 14 (by kernel_rfl) (by kernel_rfl) ?_
  simp only [List.take_succ_cons, List.take_zero, List.drop_succ_cons, List.drop_zero]
  repeat (go_big_quiet_step (first | (go_at_call 222; exact HC.out _)))
  refine wpQuiet_nil ?_
  intro _ hw'
  obtain ⟨gr, hw''⟩ := hw'
  subst hw''
  have f2 := (HS.out gr).frozen 2
  have HG2 := Lib.hid (grown_below (some g) gr.h)
  go_wp2_with fail
  go_ret2
  refine ⟨rfl, (HS.out gr).set 2 _, grown_trans HG2.out (grown_set g 2 _)⟩
theorem ended_any (g : Nat) (A : Option Addr) (n c i : Nat) (bs : List UInt8) (w : World) (hs : SR w g A n c i) (hx : Bytes w A n c bs) (hn : n ≤ 65536) (hi : i ≤ 8 * n) :
    Calls Tryz.prog 157 #[.pointer (some ⟨g, 0, none⟩)] w fun e w' => e = .returned (.bool (endB (bitD bs) (8 * n) i)) ∧ Below w.heap.size w w' := by
  have HS := Lib.hid hs
  have HX := Lib.hid hx
  have hE : endB (bitD bs) (8 * n) i = decide (8 * n ≤ i + 7 ∧ valB (bitD bs) i (8 * n - i) = 0) := rfl
  have HL := Lib.hid (fun W (hW : SR W g A n c i) => left_any g A n c i W hW hn hi)
  have HC := fun W (hW : Bytes W A n c bs) (hc : 8 * n - i ≤ 32) => read_any A n c i (8 * n - i) bs W hW hn hc (by omega)
  have hv : rdV (bitD bs) (8 * n) i (8 * n - i) = valB (bitD bs) i (8 * n - i) := if_neg (by omega)
  have he : rdE (8 * n) i (8 * n - i) = 0 := if_neg (by omega)
  rw [hv, he] at HC
  have HSR := Lib.hid (fun W (hW : SR W g A n c i) => (⟨hW.cell (j := 0) rfl, hW.cell (j := 1) rfl, hW.cell (j := 2) rfl⟩ : W.cell? ⟨g, 0, none⟩ = some (.slice A n c) ∧ W.cell? ⟨g, 1, none⟩ = some (.int .i64 ((8 * n : Nat) : Int)) ∧ W.cell? ⟨g, 2, none⟩ = some (.int .i64 (i : Int))))
  obtain ⟨N, hN⟩ : ∃ N, N = 8 * n := ⟨_, rfl⟩
  rw [← hN] at HC HL hE HSR hi
  rw [← hN]
  have hN8 : N ≤ 524288 := by omega
  obtain ⟨L, hL⟩ : ∃ L, L = N - i := ⟨_, rfl⟩
  rw [← hL] at HC HL hE
  obtain ⟨v, hvv⟩ : ∃ v, v = valB (bitD bs) i L := ⟨_, rfl⟩
  rw [← hvv] at HC hE
  have hLi : L = N - i := hL
  replace HC := Lib.hid HC
  by_cases h7 : L ≤ 7
  · have hE2 : endB (bitD bs) N i = decide (v = 0) := by
      rw [hE]
      exact decide_eq_decide.2 ⟨fun h => h.2, fun h => ⟨by omega, h⟩⟩
    rw [hE2]
    have d0 : decide ((7 : Int) < (L : Int)) = false := decide_eq_false (by omega)
    have d0' : decide (7 < L) = false := decide_eq_false (by omega)
    have q0 : ((v : Int) == 0) = decide (v = 0) := by
      by_cases h : v = 0
      · rw [decide_eq_true h, h]; rfl
      · rw [decide_eq_false h, beq_eq_false_iff_ne]; omega
    obtain ⟨z, hz⟩ : ∃ z, z = decide (v = 0) := ⟨_, rfl⟩
    rw [← hz] at q0 ⊢
    have hL32 : L ≤ 32 := by omega
    have HL32 := Lib.hid hL32
    clear hs hx hN hvv hv he hE hE2 hL hz hLi
    go_enter Tryz.func157, Tryz.ntmps157
    go_wp2_with fail
    refine (HL.out w HS.out).mono ?_
    rintro e w1 ⟨rfl, m, rfl⟩
    have hs1 : SR (w.drewN m) g A n c i := HS.out
    have hx1 : Bytes (w.drewN m) A n c bs := HX.out.below ((Drawn.drewN w m).below _)
    have hsg : ∀ gr : Bwt.Gr (w.drewN m), SR gr.w g A n c i := fun gr => (gr.h.block _ hs1.lt).trans hs1
    have c0 : ∀ gr : Bwt.Gr (w.drewN m), gr.w.cell? ⟨g, 0, none⟩ = some (.slice A n c) := fun gr => (HSR.out _ (hsg gr)).1
    have c1 : ∀ gr : Bwt.Gr (w.drewN m), gr.w.cell? ⟨g, 1, none⟩ = some (.int .i64 (N : Int)) := fun gr => (HSR.out _ (hsg gr)).2.1
    have c2 : ∀ gr : Bwt.Gr (w.drewN m), gr.w.cell? ⟨g, 2, none⟩ = some (.int .i64 (i : Int)) := fun gr => (HSR.out _ (hsg gr)).2.2
    have HC1 := Lib.hid (fun gr : Bwt.Gr (w.drewN m) => (HC.out gr.w (hx1.below gr.h) HL32.out).mono (fun e w' h => (⟨h.1, ⟨w', gr.h.trans (h.2.mono gr.h.size)⟩, rfl⟩ : e = _ ∧ ∃ g' : Bwt.Gr (w.drewN m), w' = g'.w)))
    have HL1 := Lib.hid (fun gr : Bwt.Gr (w.drewN m) => (HL.out gr.w (hsg gr)).mono (fun e w' h => (⟨h.1, by obtain ⟨m, rfl⟩ := h.2; exact ⟨⟨_, gr.h.trans ((Drawn.drewN gr.w m).below _)⟩, rfl⟩⟩ : e = _ ∧ ∃ g' : Bwt.Gr (w.drewN m), w' = g'.w)))
    clear hs1 hx1 hsg
    go_wp2_with fail
    refine wp_region_grow 15 (by kernel_rfl) (by kernel_rfl) ?_
    simp only [List.take_succ_cons, List.take_zero, List.drop_succ_cons, List.drop_zero]
    repeat (go_big_quiet_step (first | (go_at_call 221; exact HL1.out _) | (go_at_call 222; exact HC1.out _)))
    refine wpQuiet_nil ?_
    intro _ hw'
    obtain ⟨gr, hw''⟩ := hw'
    subst hw''
    have HB := Lib.hid (((Drawn.drewN w m).below w.heap.size).trans gr.h)
    cases z with
    | true =>
      go_wp2_with fail
      go_ret
      exact ⟨rfl, HB.out⟩
    | false =>
      go_wp2_with fail
      go_ret
      exact ⟨rfl, HB.out⟩
  · have hE2 : endB (bitD bs) N i = false := by
      rw [hE]
      exact decide_eq_false (fun h => by omega)
    rw [hE2]
    have d0 : decide ((7 : Int) < (L : Int)) = true := decide_eq_true (by omega)
    have d0' : decide (7 < L) = true := decide_eq_true (by omega)
    clear hs hx hN hvv hv he hE hE2 hL hLi
    go_enter Tryz.func157, Tryz.ntmps157
    go_wp2_with fail
    refine (HL.out w HS.out).mono ?_
    rintro e w1 ⟨rfl, m, rfl⟩
    go_wp2_with fail
    go_ret
    exact ⟨rfl, (Drawn.drewN w m).below _⟩
theorem rgamma_any (g : Nat) (A : Option Addr) (n c i most : Nat) (bs : List UInt8) (w : World) (hs : SR w g A n c i) (hx : Bytes w A n c bs) (hn : n ≤ 65536) (hi : i ≤ 8 * n) (hm : most ≤ 1000000) :
    Calls Tryz.prog 224 #[.pointer (some ⟨g, 0, none⟩), .int .i64 (most : Int)] w fun e w' => e = .returned (.tuple #[.int .i64 (((rgR (bitD bs) (8 * n) i).1 : Nat) : Int), .int .i64 (if (rgR (bitD bs) (8 * n) i).2.2 = 0 ∧ most < (rgR (bitD bs) (8 * n) i).1 then 2 else (rgR (bitD bs) (8 * n) i).2.2)]) ∧ SR w' g A n c (rgR (bitD bs) (8 * n) i).2.1 ∧ w.grownBy w' (some g) := by
  have HC := fun gr : Bwt.Gr w => (readGamma_any A n c i bs gr.w (hx.below gr.h) hn hi).mono (fun e w' h => (⟨h.1, ⟨w', gr.h.trans (h.2.mono gr.h.size)⟩, rfl⟩ : e = _ ∧ ∃ g' : Bwt.Gr w, w' = g'.w))
  have hsg : ∀ gr : Bwt.Gr w, SR gr.w g A n c i := fun gr => (gr.h.block _ hs.lt).trans hs
  have HS := Lib.hid hsg
  have c0 : ∀ gr : Bwt.Gr w, gr.w.cell? ⟨g, 0, none⟩ = some (.slice A n c) := fun gr => (hsg gr).cell rfl
  have c1 : ∀ gr : Bwt.Gr w, gr.w.cell? ⟨g, 1, none⟩ = some (.int .i64 ((8 * n : Nat) : Int)) := fun gr => (hsg gr).cell rfl
  have c2 : ∀ gr : Bwt.Gr w, gr.w.cell? ⟨g, 2, none⟩ = some (.int .i64 (i : Int)) := fun gr => (hsg gr).cell rfl
  obtain ⟨⟨v, j, er⟩, hR⟩ : ∃ R, R = rgR (bitD bs) (8 * n) i := ⟨_, rfl⟩
  rw [← hR] at HC ⊢
  dsimp only at HC ⊢
  obtain ⟨N, hN⟩ : ∃ N, N = 8 * n := ⟨_, rfl⟩
  rw [← hN] at c1 hi HC
  have hN8 : N ≤ 524288 := by omega
  replace HC := Lib.hid HC
  clear hs hx hN hR hsg
  by_cases he : er = 0
  · have q0 : (er == 0) = true := by simp [he]
    by_cases hmo : most < v
    · have d0 : decide ((most : Int) < (v : Int)) = true := decide_eq_true (by omega)
      have d0' : decide (most < v) = true := decide_eq_true hmo
      rw [if_pos ⟨he, hmo⟩]
      clear he hmo
      go_enter Tryz.func224, Tryz.ntmps224
      go_wp2
      refine wp_region_grow 15 (by kernel_rfl) (by kernel_rfl) ?_
      simp only [List.take_succ_cons, List.take_zero, List.drop_succ_cons, List.drop_zero]
      repeat (go_big_quiet_step (first | (go_at_call 268; exact HC.out _)))
      refine wpQuiet_nil ?_
      intro _ hw'
      obtain ⟨gr, hw''⟩ := hw'
      subst hw''
      have f2 := (HS.out gr).frozen 2
      have HG2 := Lib.hid (grown_below (some g) gr.h)
      go_wp2_with fail
      go_ret2
      refine ⟨rfl, (HS.out gr).set 2 _, grown_trans HG2.out (grown_set g 2 _)⟩
    · have d0 : decide ((most : Int) < (v : Int)) = false := decide_eq_false (by omega)
      have d0' : decide (most < v) = false := decide_eq_false hmo
      rw [if_neg (fun h => hmo h.2)]
      clear he hmo
      go_enter Tryz.func224, Tryz.ntmps224
      go_wp2
      refine wp_region_grow 15 (by kernel_rfl) (by kernel_rfl) ?_
      simp only [List.take_succ_cons, List.take_zero, List.drop_succ_cons, List.drop_zero]
      repeat (go_big_quiet_step (first | (go_at_call 268; exact HC.out _)))
      refine wpQuiet_nil ?_
      intro _ hw'
      obtain ⟨gr, hw''⟩ := hw'
      subst hw''
      have f2 := (HS.out gr).frozen 2
      have HG2 := Lib.hid (grown_below (some g) gr.h)
      go_wp2_with fail
      go_ret2
      refine ⟨rfl, (HS.out gr).set 2 _, grown_trans HG2.out (grown_set g 2 _)⟩
  · have q0 : (er == 0) = false := by simpa using he
    rw [if_neg (fun h => he h.1)]
    clear he
    go_enter Tryz.func224, Tryz.ntmps224
    go_wp2
    refine wp_region_grow 15 (by kernel_rfl) (by kernel_rfl) ?_
    simp only [List.take_succ_cons, List.take_zero, List.drop_succ_cons, List.drop_zero]
    repeat (go_big_quiet_step (first | (go_at_call 268; exact HC.out _)))
    refine wpQuiet_nil ?_
    intro _ hw'
    obtain ⟨gr, hw''⟩ := hw'
    subst hw''
    have f2 := (HS.out gr).frozen 2
    have HG2 := Lib.hid (grown_below (some g) gr.h)
    go_wp2_with fail
    go_ret2
    refine ⟨rfl, (HS.out gr).set 2 _, grown_trans HG2.out (grown_set g 2 _)⟩
def rmE (g : Nat → Bool) (N i most : Nat) : Int := if (rgR g N i).2.2 = 0 ∧ most < (rgR g N i).1 then 2 else (rgR g N i).2.2
theorem rgR_err {g : Nat → Bool} {N i : Nat} {e : Int} (h : rdG g N i = .error e) : e ≠ 0 := by
  unfold rdG at h
  split at h
  · injection h with h; subst h; decide
  · split at h
    · injection h with h; subst h; decide
    · split at h
      · cases h
      · rename_i hr
        injection h with h
        unfold rdB at hr
        split at hr
        · injection hr with hr; omega
        · cases hr
theorem rdM_eq (g : Nat → Bool) (N i most : Nat) : rdM g N i most = if rmE g N i most = 0 then .ok ((rgR g N i).1, (rgR g N i).2.1) else .error (rmE g N i most) := by
  unfold rdM rmE rgR
  cases h : rdG g N i with
  | error e =>
    dsimp only
    have := rgR_err h
    have e1 : (if e = 0 ∧ most < 0 then (2 : Int) else e) = e := if_neg (fun hh => this hh.1)
    rw [e1, if_neg this]
  | ok p =>
    obtain ⟨n, j⟩ := p
    dsimp only
    by_cases hm : most < n
    · have e1 : (if (0 : Int) = 0 ∧ most < n then (2 : Int) else 0) = 2 := if_pos ⟨rfl, hm⟩
      rw [e1, if_pos hm, if_neg (by decide)]
    · have e1 : (if (0 : Int) = 0 ∧ most < n then (2 : Int) else 0) = 0 := if_neg (fun hh => hm hh.2)
      rw [e1, if_neg hm, if_pos rfl]
theorem rmE_ok {g : Nat → Bool} {N i most : Nat} (h : rmE g N i most = 0) : (rgR g N i).1 ≤ most ∧ (rgR g N i).2.1 ≤ N := by
  have h1 := rdM_eq g N i most
  rw [if_pos h] at h1
  have := rdM_le h1
  omega
theorem rdT_a {g : Nat → Bool} {N i : Nat} (h : N < i + 1) : rdT g N i = .error 9 := by
  unfold rdT rdB
  rw [if_pos h]
theorem rdT_b {g : Nat → Bool} {N i : Nat} (h1 : ¬ N < i + 1) (h0 : valB g i 1 = 0) : rdT g N i = if rdE N (i + 1) 8 = 0 then .ok (⟨0, 0, UInt8.ofNat (rdV g N (i + 1) 8)⟩, i + 9) else .error (rdE N (i + 1) 8) := by
  unfold rdT rdB rdE rdV
  rw [if_neg h1, h0]
  dsimp only
  by_cases h : N < i + 1 + 8
  · have e1 : (if N < i + 1 + 8 then (9 : Int) else 0) = 9 := if_pos h
    rw [e1, if_pos h, if_neg (by decide)]
  · have e1 : (if N < i + 1 + 8 then (9 : Int) else 0) = 0 := if_neg h
    rw [e1, if_neg h, if_pos rfl, if_neg h]
theorem rdT_k {g : Nat → Bool} {N i : Nat} (h1 : ¬ N < i + 1) (h0 : valB g i 1 ≠ 0) : rdT g N i = match rdM g N (i + 1) 254 with
    | .error e => .error e
    | .ok (n, j) => match rdM g N j 4096 with
      | .error e => .error e
      | .ok (d, k) => .ok (⟨n + 1, d, 0⟩, k) := by
  obtain ⟨m, hm⟩ : ∃ m, valB g i 1 = m + 1 := ⟨valB g i 1 - 1, by omega⟩
  unfold rdT rdB
  rw [if_neg h1, hm]
  rfl
theorem rdT_c {g : Nat → Bool} {N i : Nat} (h1 : ¬ N < i + 1) (h0 : valB g i 1 ≠ 0) (he : rmE g N (i + 1) 254 ≠ 0) : rdT g N i = .error (rmE g N (i + 1) 254) := by
  rw [rdT_k h1 h0, rdM_eq, if_neg he]
theorem rdT_d {g : Nat → Bool} {N i : Nat} (h1 : ¬ N < i + 1) (h0 : valB g i 1 ≠ 0) (he : rmE g N (i + 1) 254 = 0) (he2 : rmE g N (rgR g N (i + 1)).2.1 4096 ≠ 0) : rdT g N i = .error (rmE g N (rgR g N (i + 1)).2.1 4096) := by
  rw [rdT_k h1 h0, rdM_eq, if_pos he]
  dsimp only
  rw [rdM_eq, if_neg he2]
theorem rdT_e {g : Nat → Bool} {N i : Nat} (h1 : ¬ N < i + 1) (h0 : valB g i 1 ≠ 0) (he : rmE g N (i + 1) 254 = 0) (he2 : rmE g N (rgR g N (i + 1)).2.1 4096 = 0) : rdT g N i = .ok (⟨(rgR g N (i + 1)).1 + 1, (rgR g N (rgR g N (i + 1)).2.1).1, 0⟩, (rgR g N (rgR g N (i + 1)).2.1).2.1) := by
  rw [rdT_k h1 h0, rdM_eq, if_pos he]
  dsimp only
  rw [rdM_eq, if_pos he2]
def NextP (w : World) (g : Nat) (A : Option Addr) (n c i : Nat) (bs : List UInt8) (e : Ending) (w' : World) : Prop := match rdT (bitD bs) (8 * n) i with
  | .ok (t, j) => e = .returned (.tuple #[.agg (tokV t), .int .i64 0]) ∧ SR w' g A n c j ∧ w.grownBy w' (some g)
  | .error er => ∃ x y z, er ≠ 0 ∧ e = .returned (.tuple #[.agg #[.int .i64 x, .int .i64 y, .int .u8 z], .int .i64 er]) ∧ w.grownBy w' (some g)
theorem NextP.bad {w w' : World} {g : Nat} {A : Option Addr} {n c i : Nat} {bs : List UInt8} {e : Ending} {er x y z : Int} (h : rdT (bitD bs) (8 * n) i = .error er) (h0 : er ≠ 0) (he : e = .returned (.tuple #[.agg #[.int .i64 x, .int .i64 y, .int .u8 z], .int .i64 er])) (hg : w.grownBy w' (some g)) : NextP w g A n c i bs e w' := by
  unfold NextP
  rw [h]
  exact ⟨x, y, z, h0, he, hg⟩
theorem NextP.good {w w' : World} {g : Nat} {A : Option Addr} {n c i j : Nat} {bs : List UInt8} {e : Ending} {t : Tok} (h : rdT (bitD bs) (8 * n) i = .ok (t, j)) (he : e = .returned (.tuple #[.agg (tokV t), .int .i64 0])) (hs : SR w' g A n c j) (hg : w.grownBy w' (some g)) : NextP w g A n c i bs e w' := by
  unfold NextP
  rw [h]
  exact ⟨he, hs, hg⟩
structure NxI (w : World) (g : Nat) (A : Option Addr) (n c j : Nat) (W : World) : Prop where
  res : rowV W w.heap.size 180 #[.int .i64 0, .int .i64 0, .int .u8 0]
  sr : SR W g A n c j
  kept : w.grownBy W (some g)
section
variable {w W W' : World} {g : Nat} {A : Option Addr} {n c j j' : Nat}
theorem NxI.call (hg : g < w.heap.size) (h : NxI w g A n c j W) (hs : SR W' g A n c j') (hk : W.grownBy W' (some g)) : NxI w g A n c j' W' :=
  ⟨(hk.block _ h.res.lt (fun e => by injection e with e; omega)).trans h.res, hs, grown_trans h.kept hk⟩
theorem NxI.lay (hg : g < w.heap.size) (h : NxI w g A n c j W) (x y z : Value) :
    rowV (((W.setCell ⟨w.heap.size, 0, none⟩ x).setCell ⟨w.heap.size, 1, none⟩ y).setCell ⟨w.heap.size, 2, none⟩ z) w.heap.size 180 #[x, y, z] ∧ SR (((W.setCell ⟨w.heap.size, 0, none⟩ x).setCell ⟨w.heap.size, 1, none⟩ y).setCell ⟨w.heap.size, 2, none⟩ z) g A n c j ∧ w.grownBy (((W.setCell ⟨w.heap.size, 0, none⟩ x).setCell ⟨w.heap.size, 1, none⟩ y).setCell ⟨w.heap.size, 2, none⟩ z) (some g) := by
  have oth : ∀ q, q ≠ w.heap.size → (((W.setCell ⟨w.heap.size, 0, none⟩ x).setCell ⟨w.heap.size, 1, none⟩ y).setCell ⟨w.heap.size, 2, none⟩ z).heap[q]? = W.heap[q]? := fun q hq =>
    (Below.heap_setCell _ ⟨w.heap.size, 2, none⟩ _ q hq).trans ((Below.heap_setCell _ ⟨w.heap.size, 1, none⟩ _ q hq).trans (Below.heap_setCell _ ⟨w.heap.size, 0, none⟩ _ q hq))
  refine ⟨((h.res.set 0 x).set 1 y).set 2 z, (oth g (by omega)).trans h.sr, ⟨h.kept.os, h.kept.tape, h.kept.output, by simpa [World.setCell] using h.kept.size, fun k hk hn => (oth k (by omega)).trans (h.kept.block k hk hn)⟩⟩
end
theorem next_any (g : Nat) (A : Option Addr) (n c i : Nat) (bs : List UInt8) (w : World) (hs : SR w g A n c i) (hx : ∀ W, w.grownBy W (some g) → Bytes W A n c bs) (hn : n ≤ 65536) (hi : i ≤ 8 * n) :
    Calls Tryz.prog 158 #[.pointer (some ⟨g, 0, none⟩)] w (NextP w g A n c i bs) := by
  have hg := hs.lt
  obtain ⟨w0, hw0⟩ : ∃ w0, w0 = w.alloc (.cells #[.int .i64 0, .int .i64 0, .int .u8 0] 180) := ⟨_, rfl⟩
  have hb0 : Below w.heap.size w w0 := by rw [hw0]; exact balloc (Below.refl _ _) _
  have hI0 : NxI w g A n c i w0 := ⟨by rw [hw0]; exact rowV.new w _ _, (hb0.block g hg).trans hs, grown_below _ hb0⟩
  have HG := Lib.hid (fun W j cnt (hI : NxI w g A n c j W) hj hc => get_any g A n c j cnt bs W hI.sr (hx W hI.kept) hn hj hc)
  have HM := Lib.hid (fun W j most (hI : NxI w g A n c j W) hj hm => rgamma_any g A n c j most bs W hI.sr (hx W hI.kept) hn hj hm)
  have HOK := Lib.hid (fun j most h => rmE_ok (g := bitD bs) (N := 8 * n) (i := j) (most := most) h)
  have HI0 := Lib.hid hI0
  have HW0 := Lib.hid hw0
  have HBAD := Lib.hid (fun e w' er x y z h h0 he hg => NextP.bad (w := w) (w' := w') (g := g) (A := A) (n := n) (c := c) (i := i) (bs := bs) (e := e) (er := er) (x := x) (y := y) (z := z) h h0 he hg)
  have HGOOD := Lib.hid (fun e w' j t h he hs hg => NextP.good (w := w) (w' := w') (g := g) (A := A) (n := n) (c := c) (i := i) (j := j) (bs := bs) (e := e) (t := t) h he hs hg)
  clear hw0 hb0 hI0 hs hx
  have HC1 := HG.out w0 i 1 HI0.out hi (by omega)
  by_cases h1 : 8 * n < i + 1
  · have e1 : rdV (bitD bs) (8 * n) i 1 = 0 := if_pos h1
    have e2 : rdE (8 * n) i 1 = 9 := if_pos h1
    rw [e1, e2] at HC1
    replace HC1 := Lib.hid HC1
    have HR : Hid (rdT (bitD bs) (8 * n) i = .error 9) := rdT_a h1
    have HN0 : Hid ((9 : Int) ≠ 0) := by unfold Hid; decide
    clear h1 e1 e2
    go_enter Tryz.func158, Tryz.ntmps158
    go_wp2_with fail
    rw [← HW0.out]
    refine HC1.out.mono ?_
    rintro e w1 ⟨rfl, hs1, hk1⟩
    have HI1 := Lib.hid (HI0.out.call hg hs1 hk1)
    clear hs1 hk1
    have q0 := HI1.out.res.cell (j := 0) rfl
    have q1 := HI1.out.res.cell (j := 1) rfl
    have q2 := HI1.out.res.cell (j := 2) rfl
    have f0 := HI1.out.res.frozen 0
    have f1 := HI1.out.res.frozen 1
    have f2 := HI1.out.res.frozen 2
    go_wp2_with fail
    exact ret_cell rfl rfl rfl (HI1.out.lay hg _ _ _).1 Tryz.underlying180 rfl (by kernel_rfl) (HBAD.out _ _ _ _ _ _ HR.out HN0.out rfl (HI1.out.lay hg _ _ _).2.2)
  · have e1 : rdV (bitD bs) (8 * n) i 1 = valB (bitD bs) i 1 := if_neg h1
    have e2 : rdE (8 * n) i 1 = 0 := if_neg h1
    rw [e1, e2] at HC1
    have hv2 := valB_lt (bitD bs) i 1
    by_cases h0 : valB (bitD bs) i 1 = 0
    · rw [h0] at HC1
      replace HC1 := Lib.hid HC1
      have hrt := rdT_b h1 h0
      have HC2 := Lib.hid (fun W hI => HG.out W (i + 1) 8 hI (by omega) (Nat.le_refl 8))
      have hv8 : rdV (bitD bs) (8 * n) (i + 1) 8 < 256 := by
        unfold rdV
        split
        · omega
        · exact valB_lt (bitD bs) (i + 1) 8
      obtain ⟨v8, hvv⟩ : ∃ v, v = rdV (bitD bs) (8 * n) (i + 1) 8 := ⟨_, rfl⟩
      obtain ⟨e8, hee⟩ : ∃ v, v = rdE (8 * n) (i + 1) 8 := ⟨_, rfl⟩
      rw [← hvv, ← hee] at HC2 hrt
      rw [← hvv] at hv8
      have HTV : Hid (tokV ⟨0, 0, UInt8.ofNat v8⟩ = #[.int .i64 0, .int .i64 0, .int .u8 (v8 : Int)]) := by
        unfold Hid tokV
        rw [show (UInt8.ofNat v8).toNat = v8 by simp; omega]
        rfl
      clear h1 e1 e2 h0 hv2 hvv hee
      by_cases he : e8 = 0
      · subst he
        rw [if_pos rfl] at hrt
        have HR := Lib.hid hrt
        clear hrt
        go_enter Tryz.func158, Tryz.ntmps158
        go_wp2_with fail
        rw [← HW0.out]
        refine HC1.out.mono ?_
        rintro e w1 ⟨rfl, hs1, hk1⟩
        have HI1 := Lib.hid (HI0.out.call hg hs1 hk1)
        clear hs1 hk1
        go_wp2_with fail
        refine (HC2.out w1 HI1.out).mono ?_
        rintro e w2 ⟨rfl, hs2, hk2⟩
        have HI2 := Lib.hid (HI1.out.call hg hs2 hk2)
        clear hs2 hk2
        have q0 := HI2.out.res.cell (j := 0) rfl
        have q1 := HI2.out.res.cell (j := 1) rfl
        have q2 := HI2.out.res.cell (j := 2) rfl
        have f0 := HI2.out.res.frozen 0
        have f1 := HI2.out.res.frozen 1
        have f2 := HI2.out.res.frozen 2
        go_wp2_with fail
        exact ret_cell rfl rfl rfl (HI2.out.lay hg _ _ _).1 Tryz.underlying180 rfl (by kernel_rfl) (HGOOD.out _ _ _ _ HR.out (congrArg (fun t => Ending.returned (.tuple #[.agg t, .int .i64 0])) HTV.out.symm) (HI2.out.lay hg _ _ _).2.1 (HI2.out.lay hg _ _ _).2.2)
      · rw [if_neg he] at hrt
        have HR := Lib.hid hrt
        have HN0 := Lib.hid he
        clear hrt he
        go_enter Tryz.func158, Tryz.ntmps158
        go_wp2_with fail
        rw [← HW0.out]
        refine HC1.out.mono ?_
        rintro e w1 ⟨rfl, hs1, hk1⟩
        have HI1 := Lib.hid (HI0.out.call hg hs1 hk1)
        clear hs1 hk1
        go_wp2_with fail
        refine (HC2.out w1 HI1.out).mono ?_
        rintro e w2 ⟨rfl, hs2, hk2⟩
        have HI2 := Lib.hid (HI1.out.call hg hs2 hk2)
        clear hs2 hk2
        have q0 := HI2.out.res.cell (j := 0) rfl
        have q1 := HI2.out.res.cell (j := 1) rfl
        have q2 := HI2.out.res.cell (j := 2) rfl
        have f0 := HI2.out.res.frozen 0
        have f1 := HI2.out.res.frozen 1
        have f2 := HI2.out.res.frozen 2
        go_wp2_with fail
        exact ret_cell rfl rfl rfl (HI2.out.lay hg _ _ _).1 Tryz.underlying180 rfl (by kernel_rfl) (HBAD.out _ _ _ _ _ _ HR.out HN0.out rfl (HI2.out.lay hg _ _ _).2.2)
    · have h01 : valB (bitD bs) i 1 = 1 := by omega
      rw [h01] at HC1
      replace HC1 := Lib.hid HC1
      have HC3 := fun W hI => HM.out W (i + 1) 254 hI (by omega) (by decide)
      have hok := HOK.out (i + 1) 254
      have ht1 := fun he => rdT_c (g := bitD bs) h1 h0 he
      have ht2 := fun he he2 => rdT_d (g := bitD bs) h1 h0 he he2
      have ht3 := fun he he2 => rdT_e (g := bitD bs) h1 h0 he he2
      have hrm : ∀ j most, rmE (bitD bs) (8 * n) j most = if (rgR (bitD bs) (8 * n) j).2.2 = 0 ∧ most < (rgR (bitD bs) (8 * n) j).1 then 2 else (rgR (bitD bs) (8 * n) j).2.2 := fun _ _ => rfl
      rw [← hrm] at HC3
      obtain ⟨a, ha⟩ : ∃ a, a = (rgR (bitD bs) (8 * n) (i + 1)).1 := ⟨_, rfl⟩
      obtain ⟨j, hj⟩ : ∃ a, a = (rgR (bitD bs) (8 * n) (i + 1)).2.1 := ⟨_, rfl⟩
      obtain ⟨er, her⟩ : ∃ a, a = rmE (bitD bs) (8 * n) (i + 1) 254 := ⟨_, rfl⟩
      rw [← ha, ← hj, ← her] at HC3
      rw [← her, ← ha, ← hj] at hok
      rw [← her] at ht1
      rw [← her, ← hj] at ht2
      rw [← her, ← ha, ← hj] at ht3
      replace HC3 := Lib.hid HC3
      clear h1 e1 e2 h0 hv2 h01 ha hj her
      by_cases he : er = 0
      · obtain ⟨ha254, hjN⟩ := hok he
        have HC4 := fun W hI => HM.out W j 4096 hI hjN (by decide)
        rw [← hrm] at HC4
        have hu2 := ht2 he
        have hu3 := ht3 he
        have hok2 := HOK.out j 4096
        obtain ⟨d, hd⟩ : ∃ a, a = (rgR (bitD bs) (8 * n) j).1 := ⟨_, rfl⟩
        obtain ⟨k, hk⟩ : ∃ a, a = (rgR (bitD bs) (8 * n) j).2.1 := ⟨_, rfl⟩
        obtain ⟨er2, her2⟩ : ∃ a, a = rmE (bitD bs) (8 * n) j 4096 := ⟨_, rfl⟩
        rw [← hd, ← hk, ← her2] at HC4
        rw [← her2] at hu2
        rw [← her2, ← hd, ← hk] at hu3
        rw [← her2, ← hd, ← hk] at hok2
        replace HC4 := Lib.hid HC4
        subst he
        clear hok ht1 ht2 ht3 hd hk her2 hrm
        by_cases he2 : er2 = 0
        · have HR := Lib.hid (hu3 he2)
          have HTV : Hid (tokV ⟨a + 1, d, 0⟩ = #[.int .i64 ((a : Int) + 1), .int .i64 (d : Int), .int .u8 0]) := rfl
          subst he2
          clear hu2 hu3 hok2
          go_enter Tryz.func158, Tryz.ntmps158
          go_wp2_with fail
          rw [← HW0.out]
          refine HC1.out.mono ?_
          rintro e w1 ⟨rfl, hs1, hk1⟩
          have HI1 := Lib.hid (HI0.out.call hg hs1 hk1)
          clear hs1 hk1
          go_wp2_with fail
          refine (HC3.out w1 HI1.out).mono ?_
          rintro e w2 ⟨rfl, hs2, hk2⟩
          have HI2 := Lib.hid (HI1.out.call hg hs2 hk2)
          clear hs2 hk2
          go_wp2_with fail
          refine (HC4.out w2 HI2.out).mono ?_
          rintro e w3 ⟨rfl, hs3, hk3⟩
          have HI3 := Lib.hid (HI2.out.call hg hs3 hk3)
          clear hs3 hk3
          have q0 := HI3.out.res.cell (j := 0) rfl
          have q1 := HI3.out.res.cell (j := 1) rfl
          have q2 := HI3.out.res.cell (j := 2) rfl
          have f0 := HI3.out.res.frozen 0
          have f1 := HI3.out.res.frozen 1
          have f2 := HI3.out.res.frozen 2
          go_wp2_with fail
          exact ret_cell rfl rfl rfl (HI3.out.lay hg _ _ _).1 Tryz.underlying180 rfl (by kernel_rfl) (HGOOD.out _ _ _ _ HR.out (congrArg (fun t => Ending.returned (.tuple #[.agg t, .int .i64 0])) HTV.out.symm) (HI3.out.lay hg _ _ _).2.1 (HI3.out.lay hg _ _ _).2.2)
        · have HR := Lib.hid (hu2 he2)
          have HN0 := Lib.hid he2
          clear hu2 hu3 hok2 he2
          go_enter Tryz.func158, Tryz.ntmps158
          go_wp2_with fail
          rw [← HW0.out]
          refine HC1.out.mono ?_
          rintro e w1 ⟨rfl, hs1, hk1⟩
          have HI1 := Lib.hid (HI0.out.call hg hs1 hk1)
          clear hs1 hk1
          go_wp2_with fail
          refine (HC3.out w1 HI1.out).mono ?_
          rintro e w2 ⟨rfl, hs2, hk2⟩
          have HI2 := Lib.hid (HI1.out.call hg hs2 hk2)
          clear hs2 hk2
          go_wp2_with fail
          refine (HC4.out w2 HI2.out).mono ?_
          rintro e w3 ⟨rfl, hs3, hk3⟩
          have HI3 := Lib.hid (HI2.out.call hg hs3 hk3)
          clear hs3 hk3
          have q0 := HI3.out.res.cell (j := 0) rfl
          have q1 := HI3.out.res.cell (j := 1) rfl
          have q2 := HI3.out.res.cell (j := 2) rfl
          have f0 := HI3.out.res.frozen 0
          have f1 := HI3.out.res.frozen 1
          have f2 := HI3.out.res.frozen 2
          go_wp2_with fail
          exact ret_cell rfl rfl rfl (HI3.out.lay hg _ _ _).1 Tryz.underlying180 rfl (by kernel_rfl) (HBAD.out _ _ _ _ _ _ HR.out HN0.out rfl (HI3.out.lay hg _ _ _).2.2)
      · have HR := Lib.hid (ht1 he)
        have HN0 := Lib.hid he
        have q9 : (er == 0) = false := by simpa using he
        clear ht1 ht2 ht3 hok he hrm
        go_enter Tryz.func158, Tryz.ntmps158
        go_wp2_with fail
        rw [← HW0.out]
        refine HC1.out.mono ?_
        rintro e w1 ⟨rfl, hs1, hk1⟩
        have HI1 := Lib.hid (HI0.out.call hg hs1 hk1)
        clear hs1 hk1
        go_wp2_with fail
        refine (HC3.out w1 HI1.out).mono ?_
        rintro e w2 ⟨rfl, hs2, hk2⟩
        have HI2 := Lib.hid (HI1.out.call hg hs2 hk2)
        clear hs2 hk2
        have q0 := HI2.out.res.cell (j := 0) rfl
        have q1 := HI2.out.res.cell (j := 1) rfl
        have q2 := HI2.out.res.cell (j := 2) rfl
        have f0 := HI2.out.res.frozen 0
        have f1 := HI2.out.res.frozen 1
        have f2 := HI2.out.res.frozen 2
        go_wp2_with fail
        exact ret_cell rfl rfl rfl (HI2.out.lay hg _ _ _).1 Tryz.underlying180 rfl (by kernel_rfl) (HBAD.out _ _ _ _ _ _ HR.out HN0.out rfl (HI2.out.lay hg _ _ _).2.2)
end Go.Proofs.YtohadkmaemmfgaaGreatDoor
