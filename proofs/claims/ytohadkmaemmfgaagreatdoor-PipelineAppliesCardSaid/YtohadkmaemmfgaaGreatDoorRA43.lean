/- Uu Qe. -/
import Derived.Test.YtohadkmaemmfgaaGreatDoorRA42
import Derived.Test.YtohadkmaemmfgaaGreatDoorRA18
import Derived.Test.YtohadkmaemmfgaaGreatDoorRA24
set_option maxRecDepth 100000
set_option maxHeartbeats 4000000
namespace Go.Proofs.YtohadkmaemmfgaaGreatDoor
open Go.RowKit Go.Proofs
set_option linter.unusedVariables false
set_option linter.unusedSimpArgs false
attribute [local go_sem] Oper.semAt_some
theorem wp_region_growU {P : Program} {Q : Exit → Act → World → Prop} {id : Nat} {a : Act} {w : World} {l : List Oper} (n : Nat) (hm : P.follows .mixedOrders = true) (hB : Region.lexTailB .any l.toArray n = true)
    (h : wpQuiet P l.toArray (fun w' => ∃ g : Bwt.Gr w, w' = g.w) (fun a' => ∀ w', (∃ g : Bwt.Gr w, w' = g.w) → wpList P l.toArray Q (l.drop n) a' w') (l.take n) a) : (Code.region id l.toArray true).wp P Q a w := by
  simp only [Region.lexTailB, Bool.and_eq_true, decide_eq_true_eq] at hB
  obtain ⟨⟨⟨⟨hsel, hn⟩, hs⟩, hc⟩, hlex⟩ := hB
  have hn' : n < l.length := by simpa using hn
  have htl : (l.take n).length = n := by simp; omega
  have hdl : (l.drop n).length = l.toArray.size - n := by simp
  have inv0 : HeadInv .any l.toArray n (Array.replicate l.toArray.size false) :=
    ⟨by simp, fun j oj _ hl => (by rw [getD_replicate_false] at hl; cases hl), fun t _ ht => getD_in (by simpa using ht) (getD_replicate_false _ _)⟩
  have H := anyQL_lex (md := .any) (g := l.toArray.size - n) hsel hs hc hn (l.take n) 0 _ a (fun j hj => by
    have hj' : j < n := by rw [htl] at hj; exact hj
    simp [hj']) (by simpa using htl) inv0 (by rw [htl]; exact hlex) h
  refine wp_region_any hm ?_
  have := any_of_head (Q' := Q) (g := l.toArray.size - n) (fun listed a' w' hw' hL => by
    have := wpAny_of_seq (md := .any) (Q' := Q) (l.drop n) n listed a' w' (fun j => by simp [List.getElem?_drop]) (by rw [hdl]; exact hL.1) (hL.2 w' hw')
    rwa [hdl] at this) _ _ _ { w with drawn := w.drawn + 1 } ⟨⟨_, (Drawn.drewN w 1).below _⟩, rfl⟩ H
  rw [htl, show n + (l.toArray.size - n) = l.toArray.size by omega] at this
  exact this
def sK (f : Tok → Int) (l : List Tok) (k : Nat) : Int × Tok := if k = 0 then (0, ⟨0, 0, 0⟩) else bstK f l k
theorem bstK_pos {f : Tok → Int} (hf : ∀ t, 0 ≤ f t) {l : List Tok} {k : Nat} (h : k < l.length) (hk : 0 < k) : 0 ≤ (bstK f l k).1 := by
  have hne : l.take k ≠ [] := fun e => by
    have h2 : (l.take k).length = 0 := by rw [e]; rfl
    rw [List.length_take] at h2
    omega
  have := (best_mem f hf hne).2
  show 0 ≤ (bestP f (l.take k)).1
  rw [this]
  exact hf _
theorem sK_next {f : Tok → Int} (hf : ∀ t, 0 ≤ f t) {l : List Tok} {k : Nat} (h : k < l.length) : sK f l (k + 1) = if k = 0 ∨ f (tG l k) ≤ (sK f l k).1 then (f (tG l k), tG l k) else sK f l k := by
  unfold sK
  rw [if_neg (Nat.succ_ne_zero k), bstK_next h]
  by_cases hk : k = 0
  · subst hk
    rw [if_pos (.inl (show (best0).1 < 0 by decide)), if_pos (.inl rfl)]
  · rw [if_neg hk]
    have := bstK_pos hf h (by omega)
    by_cases hc : f (tG l k) ≤ (bstK f l k).1
    · rw [if_pos (.inr hc), if_pos (.inr hc)]
    · rw [if_neg (by omega), if_neg (by omega)]
theorem sK_all (f : Tok → Int) {l : List Tok} (h : l ≠ []) : sK f l l.length = bestP f l := by
  unfold sK
  rw [if_neg (by simpa using h), bstK_all]
theorem ret_tmp_cell {P : Program} {fn : Func} {p u : Tmp} {ty t : TypeId} {R : Ending → World → Prop} {tmps : Array Value} {W : World} {g : Nat} {cs : Array Value} {v : Value} {d : TypeDesc} (h : fn.results = #[.tmp u, .cell p ty])
    (hv : tmps.getD u undef = v) (hp : tmps.getD p undef = .pointer (some ⟨g, 0, none⟩)) (hr : rowV W g t cs) (hu : P.underlying ty = some d) (hd : (match d with | .struct _ | .array _ _ => true | _ => false) = true) (hi : (P.info? ty).map (·.size) = some cs.size)
    (hR : R (.returned (.tuple #[v, .agg cs])) W) : bodyPost P fn R .ret { tmps := tmps, defers := [] } W := by
  refine bodyPost_ret (v := .tuple #[v, .agg cs]) ?_ rfl hR
  have hp' : tmps[p]?.getD undef = .pointer (some ⟨g, 0, none⟩) := by simpa using hp
  have hv1 : tmps[u]?.getD undef = v := by simpa using hv
  simp [results, h, hp', hv1, asAddr, run_loadVar_row W g t ty cs (0, 0) d hr hu hd hi, Result.andThen, Sem.run_bind]
theorem set3_below {w W : World} {g B : Nat} (h : Below B w W) (hg : B ≤ g) (x y z : Value) : Below B w (((W.setCell ⟨g, 0, none⟩ x).setCell ⟨g, 1, none⟩ y).setCell ⟨g, 2, none⟩ z) :=
  Below.setCell (p := ⟨g, 2, none⟩) (Below.setCell (p := ⟨g, 1, none⟩) (Below.setCell (p := ⟨g, 0, none⟩) h hg _) hg _) hg _
theorem chL_ne (bs : List UInt8) (at_ : Nat) : chL bs at_ ≠ [] := by unfold chL; simp
theorem best36_any (A : Option Addr) (n c at_ : Nat) (bs : List UInt8) (Q : Option Addr) (np cp : Nat) (pots : List Int) (S : List (Int × Tok)) (w : World) (hx : Bytes w A n c bs) (hn : n ≤ 65536) (ha : at_ < n) (hq : Ints w Q np cp pots) (hnp : np = n + 1)
    (hpot : ∀ i, at_ < i → i ≤ n → gi pots i = potS S (i - at_ - 1)) (hlo : ∀ j, 0 ≤ potS S j ∧ potS S j ≤ 3000000) :
    Calls Tryz.prog 186 #[.slice A n c, .int .i64 (at_ : Int), .slice Q np cp] w fun e w' => e = .returned (.tuple #[.int .i64 (bestP (costF S) (chL bs at_)).1, .agg (tokV (bestP (costF S) (chL bs at_)).2)]) ∧ Below w.heap.size w w' := by
  have hl' := hx.1
  have hcost : ∀ k, k < (chL bs at_).length → TokAt bs at_ (tG (chL bs at_) k) := fun k hk => chL_at (by rw [hl']; exact ha) _ (tG_mem hk)
  have hF0 : ∀ t, 0 ≤ costF S t := fun t => by
    have h1 := pri_lo t
    have h2 := (hlo (tsz t - 1)).1
    unfold costF
    omega
  obtain ⟨F, hF⟩ : ∃ F, F = costF S := ⟨_, rfl⟩
  have HFv : Hid (∀ t, F t = priT t + potS S (tsz t - 1)) := fun t => by rw [hF]; rfl
  rw [← hF] at hF0 ⊢
  have HF0 := Lib.hid hF0
  have HCT := Lib.hid hcost
  have HX := Lib.hid hx
  have HQ := Lib.hid hq
  have HPOT := Lib.hid hpot
  have HLO := Lib.hid hlo
  have HNP := Lib.hid hnp
  have HL' := Lib.hid hl'
  obtain ⟨L, hL⟩ : ∃ L, L = chL bs at_ := ⟨_, rfl⟩
  have HLE := Lib.hid hL
  rw [← hL] at HCT ⊢
  have hnp1 : 0 < np := by omega
  obtain ⟨bq, oq, rfl, -, -⟩ := hq.get hnp1
  have hN : n ≤ 65536 ∧ at_ < n ∧ np ≤ 65537 := ⟨hn, ha, by omega⟩
  obtain ⟨w1, hw1⟩ : ∃ w1, w1 = w.alloc (.cells #[.int .i64 0, .int .i64 0, .int .u8 0] 180) := ⟨_, rfl⟩
  have hb1 : Below w.heap.size w w1 := by rw [hw1]; exact balloc (Below.refl _ _) _
  have R1 : Hid (rowV w1 w.heap.size 180 (tokV ⟨0, 0, 0⟩)) := by show rowV _ _ _ _; rw [hw1]; exact rowV.new w _ _
  have HW1 := Lib.hid hw1
  have HB1 := Lib.hid hb1
  have HC := Lib.hid (choices36_any A n c at_ bs w1 (hx.below hb1) hn ha)
  rw [← hL] at HC
  clear hF hcost hpot hlo hq hnp hx hw1 hb1 hF0 hl' hL hn ha
  go_enter Tryz.func186, Tryz.ntmps186
  go_wp2_with fail
  rw [← HW1.out]
  refine HC.out.mono ?_
  rintro e w2 ⟨A2, m, c2, rfl, ho2, hm2, hb2⟩
  have HO2 := Lib.hid ho2
  have HB2 := Lib.hid hb2
  have Hm := Lib.hid ho2.len
  have R2 := Lib.hid (R1.out.below hb2 R1.out.lt)
  obtain ⟨w3, hw3⟩ : ∃ w3, w3 = w2.alloc (.cells #[.int .i64 0, .int .i64 0, .int .u8 0] 180) := ⟨_, rfl⟩
  have hb3 : Below w2.heap.size w2 w3 := by rw [hw3]; exact balloc (Below.refl _ _) _
  have HW3 := Lib.hid hw3
  have HB03 := Lib.hid (HB1.out.trans ((HB2.out.mono HB1.out.size).trans (hb3.mono (Nat.le_trans HB1.out.size HB2.out.size))))
  have HI0 : Hid (rowV w3 w2.heap.size 180 (tokV (sK F L 0).2) ∧ Below w2.heap.size w2 w3) := ⟨by rw [hw3]; exact rowV.new w2 _ _, hb3⟩
  have HB02 := Lib.hid (HB1.out.trans (hb2.mono HB1.out.size))
  have hlt2 : w.heap.size < w2.heap.size := R2.out.lt
  clear ho2 hb2 hw3 hb3 HC
  go_wp2_with (refine wpList_store_new rfl 180 (.tmp 11) (.tmp 20) rfl #[.int .i64 0, .int .i64 0, .int .u8 0] 180 _ rfl rfl (by kernel_rfl) rfl (by simp [Value.oneCell']) ?_)
  rw [← HW3.out]
  go_wp2_with fail
  go_loopw [10, 12, 13] (fun vl vi _ wr => ∃ k : Nat, k ≤ m ∧ vi = .int .i64 (k : Int) ∧ vl = .int .i64 (sK F L k).1 ∧ Hid (rowV wr w2.heap.size 180 (tokV (sK F L k).2) ∧ Below w2.heap.size w2 wr)) (fun _ vi _ _ => m - (intOf vi).toNat)
  case atStart => exact ⟨0, Nat.zero_le _, rfl, rfl, HI0⟩
  case round =>
    obtain ⟨k, hk, rfl, rfl, HI⟩ := hrel
    by_cases hlt : k < m
    · have e0 : decide ((k : Int) < (m : Int)) = true := decide_eq_true (by omega)
      have e0' : decide (k < m) = true := decide_eq_true hlt
      have hkL : k < L.length := by rw [Hm.out]; exact hlt
      have hat := HCT.out k hkL
      have hlim := tok_lim hat
      have hnx := sK_next (f := F) HF0.out hkL
      have hTW := HO2.out.toks.below HI.out.2 (Nat.le_refl _)
      obtain ⟨bt, ot, hA2, hbt, hct⟩ := hTW.2.2 (by omega)
      obtain ⟨t, ht⟩ : ∃ t, t = tG L k := ⟨_, rfl⟩
      obtain ⟨s, hs⟩ : ∃ s, s = sK F L k := ⟨_, rfl⟩
      obtain ⟨z0, z1, z2⟩ := hct k hlt
      rw [← ht] at hat hlim hnx z0 z1 z2
      rw [← hs] at hnx HI ⊢
      have hsz := hat.2.2.1
      rw [HL'.out] at hsz
      have hsz1 := tsz_pos t
      have hpv := HLO.out (tsz t - 1)
      have hpe := HPOT.out (at_ + tsz t) (by omega) hsz
      rw [show at_ + tsz t - at_ - 1 = tsz t - 1 by omega] at hpe
      have hFt := HFv.out t
      have hp1 := pri_lo t
      have hp2 := pri_hi t
      obtain ⟨W, hW⟩ : ∃ W, W = wr := ⟨_, rfl⟩
      subst hW
      subst hA2
      have hbt2 : bt < W.heap.size := hbt
      have k0 : ∀ gr : Bwt.Gr W, gr.w.cell? ⟨bt, ot + k * 3, none⟩ = some (.int .i64 (t.len : Int)) := fun gr => (gr.h.cell (p := ⟨bt, ot + k * 3, none⟩) hbt2).trans z0
      have k1 : ∀ gr : Bwt.Gr W, gr.w.cell? ⟨bt, ot + k * 3 + 1, none⟩ = some (.int .i64 (t.dst : Int)) := fun gr => (gr.h.cell (p := ⟨bt, ot + k * 3 + 1, none⟩) hbt2).trans z1
      have k2 : ∀ gr : Bwt.Gr W, gr.w.cell? ⟨bt, ot + k * 3 + 2, none⟩ = some (.int .u8 (t.byt.toNat : Int)) := fun gr => (gr.h.cell (p := ⟨bt, ot + k * 3 + 2, none⟩) hbt2).trans z2
      obtain ⟨ix, hix⟩ : ∃ ix, ix = at_ + tsz t := ⟨_, rfl⟩
      obtain ⟨sz, hsz'⟩ : ∃ sz, sz = tsz t := ⟨_, rfl⟩
      have hixl : ix < np := by have := HNP.out; omega
      have pc : ∀ gr : Bwt.Gr W, gr.w.cell? ⟨bq, oq + ix, none⟩ = some (.int .i64 (potS S (tsz t - 1))) := fun gr => by
        have hbw := HB02.out.trans (HI.out.2.mono HB02.out.size)
        have hh := HQ.out.below (hbw.trans (gr.h.mono hbw.size))
        obtain ⟨b', o', e, -, hc⟩ := hh.get hnp1
        injection e with e
        injection e with e1 e2
        subst e1 e2
        rw [hc ix hixl, hix, hpe]
      have HPR : Hid (∀ gr : Bwt.Gr W, Calls Tryz.prog 187 #[.agg #[.int .i64 (t.len : Int), .int .i64 (t.dst : Int), .int .u8 (t.byt.toNat : Int)]] gr.w fun e w' => e = .returned (.int .i64 (priT t)) ∧ ∃ g' : Bwt.Gr W, w' = g'.w) := fun gr => by
        refine (price35_any t gr.w hlim).mono ?_
        rintro e w' ⟨rfl, hb⟩
        exact ⟨rfl, ⟨w', gr.h.trans (hb.mono gr.h.size)⟩, rfl⟩
      have HSZ : Hid (∀ gr : Bwt.Gr W, Calls Tryz.prog 183 #[.agg #[.int .i64 (t.len : Int), .int .i64 (t.dst : Int), .int .u8 (t.byt.toNat : Int)]] gr.w fun e w' => e = .returned (.int .i64 (sz : Int)) ∧ ∃ g' : Bwt.Gr W, w' = g'.w) := fun gr => by
        refine (size35_any t gr.w hlim).mono ?_
        rintro e w' ⟨rfl, hb⟩
        rw [hsz']
        exact ⟨rfl, ⟨w', gr.h.trans (hb.mono gr.h.size)⟩, rfl⟩
      obtain ⟨pr, hpr⟩ : ∃ pr, pr = priT t := ⟨_, rfl⟩
      obtain ⟨pv, hpve⟩ : ∃ pv, pv = potS S (tsz t - 1) := ⟨_, rfl⟩
      rw [← hpr] at HPR hp1 hp2 hFt
      rw [← hpve] at pc hpv hFt
      have hadd : (at_ : Int) + (sz : Int) = (ix : Int) := by omega
      have hw1 : IntKind.i64.wrap ((at_ : Int) + (sz : Int)) = (ix : Int) := by rw [hadd, IntKind.wrap_i64]; omega
      have hw2 : IntKind.i64.wrap (pr + pv) = pr + pv := by rw [IntKind.wrap_i64]; omega
      have di : decide ((ix : Int) < (np : Int)) = true := decide_eq_true (by omega)
      have dk : decide ((k : Int) < (m : Int)) = true := e0
      have HFT := Lib.hid hFt
      have HNX := Lib.hid hnx
      have HT : Hid (tG L k = t) := ht.symm
      have HG : Hid (∀ gr : Bwt.Gr W, rowV gr.w w2.heap.size 180 (tokV s.2) ∧ Below w2.heap.size w2 gr.w) := fun gr =>
        ⟨HI.out.1.below gr.h HI.out.1.lt, HI.out.2.trans (gr.h.mono HI.out.2.size)⟩
      clear hat hlim hnx hpe hpr hpve hix hsz' hs ht hFt hct hbt z0 z1 z2 hsz hkL
      go_wp2_with fail
      refine wp_region_growU 15 (by kernel_rfl) (by kernel_rfl) ?_
      simp only [List.take_succ_cons, List.take_zero, List.drop_succ_cons, List.drop_zero]
      repeat (go_big_quiet_step (first
        | (go_at_call 187; exact HPR.out _)
        | (go_at_call 183; exact HSZ.out _)))
      refine wpQuiet_nil ?_
      intro _ hw'
      obtain ⟨gr, hw''⟩ := hw'
      subst hw''
      have HGR := Lib.hid (HG.out gr)
      have a0 := k0 gr
      have a1 := k1 gr
      have a2 := k2 gr
      clear k0 k1 k2 pc HPR HSZ
      have hgr := HGR.out.1
      have y0 : gr.w.cell? ⟨w2.heap.size, 0, none⟩ = some (.int .i64 (s.2.len : Int)) := hgr.cell rfl
      have y1 : gr.w.cell? ⟨w2.heap.size, 1, none⟩ = some (.int .i64 (s.2.dst : Int)) := hgr.cell rfl
      have y2 : gr.w.cell? ⟨w2.heap.size, 2, none⟩ = some (.int .u8 (s.2.byt.toNat : Int)) := hgr.cell rfl
      have f0 := hgr.frozen 0
      have f1 := hgr.frozen 1
      have f2 := hgr.frozen 2
      have HFIN : Hid (rowV ((((gr.w.setCell ⟨w2.heap.size, 0, none⟩ (.int .i64 (t.len : Int))).setCell ⟨w2.heap.size, 1, none⟩ (.int .i64 (t.dst : Int))).setCell ⟨w2.heap.size, 2, none⟩ (.int .u8 (t.byt.toNat : Int))).drew) w2.heap.size 180 (tokV t) ∧ Below w2.heap.size w2 ((((gr.w.setCell ⟨w2.heap.size, 0, none⟩ (.int .i64 (t.len : Int))).setCell ⟨w2.heap.size, 1, none⟩ (.int .i64 (t.dst : Int))).setCell ⟨w2.heap.size, 2, none⟩ (.int .u8 (t.byt.toNat : Int))).drew)) :=
        ⟨((hgr.set 0 _).set 1 _).set 2 _, bdrew (set3_below HGR.out.2 (Nat.le_refl _) _ _ _) 1⟩
      clear hgr
      by_cases hk0 : k = 0
      · have q0 : ((k : Int) == 0) = true := by simp [hk0]
        have HN2 : Hid (sK F L (k + 1) = (pr + pv, t)) := by show _ = _; rw [HNX.out, if_pos (.inl hk0), HFT.out]
        have HS2 : Hid (rowV ((((gr.w.setCell ⟨w2.heap.size, 0, none⟩ (.int .i64 (t.len : Int))).setCell ⟨w2.heap.size, 1, none⟩ (.int .i64 (t.dst : Int))).setCell ⟨w2.heap.size, 2, none⟩ (.int .u8 (t.byt.toNat : Int))).drew) w2.heap.size 180 (tokV (sK F L (k + 1)).2) ∧ Below w2.heap.size w2 ((((gr.w.setCell ⟨w2.heap.size, 0, none⟩ (.int .i64 (t.len : Int))).setCell ⟨w2.heap.size, 1, none⟩ (.int .i64 (t.dst : Int))).setCell ⟨w2.heap.size, 2, none⟩ (.int .u8 (t.byt.toNat : Int))).drew)) := by
          show _ ∧ _
          rw [HN2.out]; exact HFIN.out
        clear hk0
        have hk1 : k + 1 ≤ m := hlt
        go_wp2_with fail
        go_region
        all_goals
          go_wp2_with fail
          go_roundw
          case rel => exact ⟨k + 1, hk1, by go_num, by rw [HN2.out], HS2⟩
          case measure => (simp [intOf]) <;> omega
      · have q0 : ((k : Int) == 0) = false := by simp [hk0]
        by_cases hc : pr + pv ≤ s.1
        · have q1 : decide (pr + pv ≤ s.1) = true := decide_eq_true hc
          have HN2 : Hid (sK F L (k + 1) = (pr + pv, t)) := by show _ = _; rw [HNX.out, HFT.out, if_pos (.inr hc)]
          have HS2 : Hid (rowV ((((gr.w.setCell ⟨w2.heap.size, 0, none⟩ (.int .i64 (t.len : Int))).setCell ⟨w2.heap.size, 1, none⟩ (.int .i64 (t.dst : Int))).setCell ⟨w2.heap.size, 2, none⟩ (.int .u8 (t.byt.toNat : Int))).drew) w2.heap.size 180 (tokV (sK F L (k + 1)).2) ∧ Below w2.heap.size w2 ((((gr.w.setCell ⟨w2.heap.size, 0, none⟩ (.int .i64 (t.len : Int))).setCell ⟨w2.heap.size, 1, none⟩ (.int .i64 (t.dst : Int))).setCell ⟨w2.heap.size, 2, none⟩ (.int .u8 (t.byt.toNat : Int))).drew)) := by
            show _ ∧ _
            rw [HN2.out]; exact HFIN.out
          clear hc hk0
          go_wp2_with fail
          go_region
          all_goals
            go_wp2_with fail
            go_roundw
            case rel => exact ⟨k + 1, hlt, by go_num, by rw [HN2.out], HS2⟩
            case measure => (simp [intOf]) <;> omega
        · have q1 : decide (pr + pv ≤ s.1) = false := decide_eq_false hc
          have HN2 : Hid (sK F L (k + 1) = s) := by show _ = _; rw [HNX.out, HFT.out, if_neg (fun h => h.elim hk0 hc)]
          clear hc hk0
          go_wp2_with fail
          go_roundw
          case rel => exact ⟨k + 1, hlt, by go_num, by rw [HN2.out], by rw [HN2.out]; exact HGR⟩
          case measure => (simp [intOf]) <;> omega
    · obtain rfl : k = m := by omega
      have e0 : decide ((k : Int) < (k : Int)) = false := decide_eq_false (by omega)
      have e0' : decide (k < k) = false := decide_eq_false (by omega)
      have HR : Hid (bestP F L = sK F L k) := by
        show _ = _
        have h := sK_all F (l := L) (by rw [HLE.out]; exact chL_ne bs at_)
        rw [Hm.out] at h
        exact h.symm
      obtain ⟨s, hs⟩ : ∃ s, s = sK F L k := ⟨_, rfl⟩
      rw [← hs] at HI HR ⊢
      clear hs
      have hrow := HI.out.1
      have hres := R2.out.below HI.out.2 hlt2
      have y0 : wr.cell? ⟨w2.heap.size, 0, none⟩ = some (.int .i64 (s.2.len : Int)) := hrow.cell rfl
      have y1 : wr.cell? ⟨w2.heap.size, 1, none⟩ = some (.int .i64 (s.2.dst : Int)) := hrow.cell rfl
      have y2 : wr.cell? ⟨w2.heap.size, 2, none⟩ = some (.int .u8 (s.2.byt.toNat : Int)) := hrow.cell rfl
      have z0 : wr.cell? ⟨w.heap.size, 0, none⟩ = some (.int .i64 0) := hres.cell rfl
      have z1 : wr.cell? ⟨w.heap.size, 1, none⟩ = some (.int .i64 0) := hres.cell rfl
      have z2 : wr.cell? ⟨w.heap.size, 2, none⟩ = some (.int .u8 0) := hres.cell rfl
      have f0 := hres.frozen 0
      have f1 := hres.frozen 1
      have f2 := hres.frozen 2
      have hbw := HB02.out.trans (HI.out.2.mono HB02.out.size)
      have HFIN : Hid (rowV ((((wr.setCell ⟨w.heap.size, 0, none⟩ (.int .i64 (s.2.len : Int))).setCell ⟨w.heap.size, 1, none⟩ (.int .i64 (s.2.dst : Int))).setCell ⟨w.heap.size, 2, none⟩ (.int .u8 (s.2.byt.toNat : Int))).drew) w.heap.size 180 (tokV s.2) ∧ Below w.heap.size w ((((wr.setCell ⟨w.heap.size, 0, none⟩ (.int .i64 (s.2.len : Int))).setCell ⟨w.heap.size, 1, none⟩ (.int .i64 (s.2.dst : Int))).setCell ⟨w.heap.size, 2, none⟩ (.int .u8 (s.2.byt.toNat : Int))).drew)) :=
        ⟨((hres.set 0 _).set 1 _).set 2 _, bdrew (set3_below hbw (Nat.le_refl _) _ _ _) 1⟩
      clear hrow hres hbw
      go_wp2_with fail
      go_region
      all_goals
        go_wp2_with fail
        exact ret_tmp_cell rfl rfl rfl HFIN.out.1 Tryz.underlying180 rfl (by kernel_rfl) ⟨by rw [HR.out]; rfl, HFIN.out.2⟩
theorem pot_of {bs : List UInt8} {n k : Nat} (hl : bs.length = n) (hk : k < n) : ∀ i, k < i → i ≤ n → gi (potL bs n) i = potS (solve bs (n - 1 - k)) (i - k - 1) := fun i h1 h2 => by
  have h := potL_end (bs := bs) (i := i) (by omega)
  rw [hl] at h
  rw [h]
  unfold potAt solvP potS
  rw [hl]
  have e : (solve bs n)[i]? = (solve bs (n - 1 - k))[i - k - 1]? := by
    have := solve_drop bs n (n - 1 - k) (by omega)
    rw [← this, List.getElem?_drop, show n - (n - 1 - k) + (i - k - 1) = i by omega]
  rw [e]
theorem step_of {bs : List UInt8} {n k : Nat} (hl : bs.length = n) (hk : k < n) : (bestP (costF (solve bs (n - 1 - k))) (chL bs k)).2 = stepAt bs k := by
  unfold stepAt
  rw [List.getD_eq_getElem?_getD, solv_at (by omega), hl]
  rfl
theorem potentials36_any (A : Option Addr) (n c : Nat) (bs : List UInt8) (w : World) (hx : Bytes w A n c bs) (hn : n ≤ 65536) :
    Calls Tryz.prog 185 #[.slice A n c] w fun e w' => ∃ gp, e = .returned (.tuple #[.slice (some ⟨gp, 0, none⟩) (n + 1) (n + 1), .int .i64 0]) ∧ Row (Value.int .i64) w' gp 3 (potL bs n) ∧ Below w.heap.size w w' := by
  have hl := hx.1
  have d65 : decide ((65536 : Int) < (n : Int)) = false := decide_eq_false (by omega)
  have d65' : decide (65536 < n) = false := decide_eq_false (by omega)
  have mk1 := run_make_row (P := Tryz.prog) (t := 52) (e := 3) (enc := Value.int .i64) (zero := 0) (bytes := 8) (by kernel_rfl) (by kernel_rfl) rfl ((n : Int) + 1) (by omega) (by omega) (by omega)
  rw [show ((n : Int) + 1).toNat = n + 1 by omega] at mk1
  obtain ⟨w2, hw2⟩ : ∃ w2, w2 = w.alloc (rowObj (Value.int .i64) 3 (List.replicate (n + 1) 0)) := ⟨_, rfl⟩
  have hb2 : Below w.heap.size w w2 := by rw [hw2]; exact balloc (Below.refl _ _) _
  have r1 : Row (Value.int .i64) w2 w.heap.size 3 (potL bs 0) := by
    rw [hw2, ← potL_zero, hl]
    exact Row.new (enc := Value.int .i64) w 3 (List.replicate (n + 1) (0 : Int))
  have HI0 : Hid (Row (Value.int .i64) w2 w.heap.size 3 (potL bs 0) ∧ Below w.heap.size w w2) := ⟨r1, hb2⟩
  have HX := Lib.hid hx
  have HW2 := Lib.hid hw2
  clear hw2 hb2 r1 hx
  go_enter Tryz.func185, Tryz.ntmps185
  go_wp2_with fail
  rw [← HW2.out]
  clear mk1
  go_loopw [5] (fun i wr => ∃ j : Nat, j ≤ n ∧ i = .int .i64 ((n : Int) - 1 - (j : Int)) ∧ Hid (Row (Value.int .i64) wr w.heap.size 3 (potL bs j) ∧ Below w.heap.size w wr)) (fun i _ => (intOf i + 1).toNat)
  case atStart => exact ⟨0, Nat.zero_le _, by simp, HI0⟩
  case round =>
    obtain ⟨j, hj, rfl, HI⟩ := hrel
    by_cases hlt : j < n
    · obtain ⟨k, hk⟩ : ∃ k, k = n - 1 - j := ⟨_, rfl⟩
      have e1 : (n : Int) - 1 - (j : Int) = (k : Int) := by omega
      have d0 : decide ((0 : Int) ≤ (k : Int)) = true := decide_eq_true (Int.natCast_nonneg k)
      have hkn : k < n := by omega
      have hN1 := potL_next (bs := bs) (j := j) (by omega)
      rw [hl, ← hk] at hN1
      have hints : Ints wr (some ⟨w.heap.size, 0, none⟩) (n + 1) (n + 1) (potL bs j) := HI.out.1.ints (by rw [potL_length, hl]) (Nat.le_refl _)
      have HB := best36_any A n c k bs (some ⟨w.heap.size, 0, none⟩) (n + 1) (n + 1) (potL bs j) (solve bs j) wr (HX.out.below HI.out.2) hn hkn hints rfl (fun i h1 h2 => by have := potL_at (bs := bs) (j := j) (i := i) (by omega) (by omega) (by omega); rw [this, hl, ← hk]) (fun i => potS_bnd (by omega) i)
      obtain ⟨p, t, hpt⟩ : ∃ p t, (p, t) = bestP (costF (solve bs j)) (chL bs k) := ⟨_, _, rfl⟩
      rw [← hpt] at HB hN1
      dsimp only at HB hN1
      replace HB := Lib.hid HB
      have HN := Lib.hid hN1
      clear hN1 hints hpt
      have FACTS : Hid (∀ W, Below wr.heap.size wr W → W.cell? ⟨w.heap.size, k, none⟩ = some (.int .i64 (gi (potL bs j) k)) ∧ W.frozen? ⟨w.heap.size, k, none⟩ = false ∧ (Row (Value.int .i64) (W.setCell ⟨w.heap.size, k, none⟩ (.int .i64 p)) w.heap.size 3 (potL bs (j + 1)) ∧ Below w.heap.size w (W.setCell ⟨w.heap.size, k, none⟩ (.int .i64 p)))) := fun W hb => by
        have a2 : Row (Value.int .i64) W w.heap.size 3 (potL bs j) := HI.out.1.below hb HI.out.1.lt
        refine ⟨a2.cell (j := k) 0 (by rw [potL_length]; omega), a2.frozen k, ?_, ?_⟩
        · rw [← HN.out]; exact a2.set k p
        · have hbw := HI.out.2.trans (hb.mono HI.out.2.size)
          exact Below.setCell (p := ⟨w.heap.size, k, none⟩) hbw (Nat.le_refl _) _
      have dk2 : decide ((k : Int) < (n : Int) + 1) = true := decide_eq_true (by omega)
      have dk4 : decide (k < n + 1) = true := decide_eq_true (by omega)
      clear hk
      go_wp2_with fail
      refine HB.out.mono ?_
      rintro e w3 ⟨rfl, hb3⟩
      obtain ⟨y3, y4, -⟩ := FACTS.out w3 hb3
      have HB3 := Lib.hid hb3
      clear hb3
      unfold tokV
      go_wp2_with fail
      go_roundw
      case rel => exact ⟨j + 1, by omega, congrArg (Value.int .i64) (by omega), Lib.hid (FACTS.out w3 HB3.out).2.2⟩
      case measure => (simp [intOf]) <;> omega
    · obtain rfl : n = j := by omega
      have d0 : decide ((0 : Int) ≤ (n : Int) - 1 - (n : Int)) = false := decide_eq_false (by omega)
      go_wp2_with fail
      go_ret2
      exact ⟨_, rfl, HI.out.1, HI.out.2⟩
theorem optimal36_any (A : Option Addr) (n c : Nat) (bs : List UInt8) (w : World) (hx : Bytes w A n c bs) (hn : n ≤ 65536) :
    Calls Tryz.prog 114 #[.slice A n c] w fun e w' => ∃ A2 m c2, e = .returned (.tuple #[.slice A2 m c2, .int .i64 (potAt bs 0), .int .i64 0]) ∧ OwnK w' w.heap.size A2 m c2 (optL bs) ∧ Below w.heap.size w w' := by
  have hl := hx.1
  have HS := Lib.hid (potentials36_any A n c bs w hx hn)
  have HX := Lib.hid hx
  clear hx
  go_enter Tryz.func114, Tryz.ntmps114
  go_wp2_with fail
  refine HS.out.mono ?_
  rintro e w2 ⟨gp, rfl, hrow, hb2⟩
  have HI0 : Hid (([] : List Tok) ++ optF bs 0 = optL bs ∧ OwnK w2 w2.heap.size none 0 0 [] ∧ Below w2.heap.size w2 w2) := ⟨rfl, OwnS.nil _ _ _ _ _, Below.refl _ _⟩
  have HR := Lib.hid hrow
  have HB2 := Lib.hid hb2
  have hgp := hrow.lt
  clear hrow hb2 HS
  go_wp2_with fail
  go_loopw [7, 8, 9, 10] (fun o a _ _ wr => ∃ (i : Nat) (l : List Tok) (A3 : Option Addr) (m3 c3 : Nat), a = .int .i64 (i : Int) ∧ i ≤ n ∧ o = .slice A3 m3 c3 ∧ m3 ≤ i ∧ Hid (l ++ optF bs i = optL bs ∧ OwnK wr w2.heap.size A3 m3 c3 l ∧ Below w2.heap.size w2 wr)) (fun _ a _ _ _ => n - (intOf a).toNat)
  case atStart => exact ⟨0, [], none, 0, 0, rfl, Nat.zero_le _, rfl, Nat.le_refl _, HI0⟩
  case round =>
    obtain ⟨i, l, A3, m3, c3, rfl, hi, rfl, hm, HI⟩ := hrel
    by_cases hlt : i < n
    · have d0 : decide ((i : Int) < (n : Int)) = true := decide_eq_true (by omega)
      have d0' : decide (i < n) = true := decide_eq_true hlt
      have hil : i < bs.length := by omega
      have hst := step_at hil
      have hlim := tok_lim hst
      have hsz := hst.2.2.1
      have hsz1 := tsz_pos (stepAt bs i)
      have hopt := HI.out.1
      rw [optF_more hil] at hopt
      have hints : Ints wr (some ⟨gp, 0, none⟩) (n + 1) (n + 1) (potL bs n) := (HR.out.below HI.out.2.2 hgp).ints (by rw [potL_length, hl]) (Nat.le_refl _)
      have HBE := best36_any A n c i bs (some ⟨gp, 0, none⟩) (n + 1) (n + 1) (potL bs n) (solve bs (n - 1 - i)) wr (HX.out.below (HB2.out.trans (HI.out.2.2.mono HB2.out.size))) hn hlt hints rfl (pot_of hl hlt) (fun i => potS_bnd (by omega) i)
      rw [step_of hl hlt] at HBE
      rw [hl] at hsz
      obtain ⟨p, hp⟩ : ∃ p, p = (bestP (costF (solve bs (n - 1 - i))) (chL bs i)).1 := ⟨_, rfl⟩
      obtain ⟨t, ht⟩ : ∃ t, t = stepAt bs i := ⟨_, rfl⟩
      rw [← ht] at hlim hsz hsz1 hopt HBE
      rw [← hp] at HBE
      replace HBE := Lib.hid HBE
      have HOPT : Hid ((l ++ [t]) ++ optF bs (i + tsz t) = optL bs) := by show _ = _; rw [← hopt]; simp
      have HSZ := Lib.hid (fun W => size35_any t W hlim)
      obtain ⟨sz, hsze⟩ : ∃ sz, sz = tsz t := ⟨_, rfl⟩
      rw [← hsze] at HSZ HOPT hsz hsz1
      have m1 : Hid (m3 + 1 ≤ maxLen ∧ (m3 + 1) * 24 ≤ 140737488355328) := ⟨by simp [maxLen]; omega, by omega⟩
      clear hst hopt ht hsze hlim hp hints
      go_wp2_with fail
      refine HBE.out.mono ?_
      rintro e w3 ⟨rfl, hb3⟩
      obtain ⟨w4, hw4⟩ : ∃ w4, w4 = w3.alloc (.cells (tokV t) 180) := ⟨_, rfl⟩
      have hb4 : Below w3.heap.size w3 w4 := by rw [hw4]; exact balloc (Below.refl _ _) _
      have r4 : rowV w4 w3.heap.size 180 (tokV t) := by rw [hw4]; exact rowV.new w3 _ _
      have hb24 : Below w2.heap.size w2 w4 := HI.out.2.2.trans ((hb3.trans (hb4.mono hb3.size)).mono HI.out.2.2.size)
      have H4 : Hid (OwnK w4 w2.heap.size A3 m3 c3 l ∧ Below w2.heap.size w2 w4) := ⟨(HI.out.2.1.below hb3).below hb4, hb24⟩
      have HW4 := Lib.hid hw4
      have HSZ4 : Hid (w3.heap.size + 1 = w4.heap.size) := by show _ = _; rw [hw4, World.size_alloc]
      have R4 := Lib.hid r4
      have hB := hb24.size
      have x0 : w4.cell? ⟨w3.heap.size, 0, none⟩ = some (.int .i64 (t.len : Int)) := r4.cell rfl
      have x1 : w4.cell? ⟨w3.heap.size, 1, none⟩ = some (.int .i64 (t.dst : Int)) := r4.cell rfl
      have x2 : w4.cell? ⟨w3.heap.size, 2, none⟩ = some (.int .u8 (t.byt.toNat : Int)) := r4.cell rfl
      have hown := H4.out.1
      have HNE : Hid (∀ r, (Value.slice A3 m3 c3).ownBlock = some r → r ≠ w3.heap.size) := fun r e => by have h1 := (World.ownsRow.lt HI.out.2.1 r e).2; have h2 := hb3.size; omega
      clear hw4 hb3 hb4 r4 hb24
      unfold tokV at HW4 R4 HSZ
      unfold tokV
      go_wp2_with (first
        | (refine wpList_store_new rfl 180 (.tmp 10) (.tmp 29) rfl _ 180 _ rfl rfl (by kernel_rfl) rfl (by simp [Value.oneCell']) ?_; rw [← HW4.out])
        | (at_builtin; refine wpList_pushS (enc := tokL) rfl (.tmp 30) (.tmp 32) rfl uTks infoTk tokL_one tokZ_size (fun _ => rfl) (by decide) rfl hown hB t _ rfl rfl m1.out.1 m1.out.2 ?_; intro A6 c6 W6 ho6 hb6 hg6; have r6 : rowV W6 w3.heap.size 180 #[.int .i64 (t.len : Int), .int .i64 (t.dst : Int), .int .u8 (t.byt.toNat : Int)] := (hg6.block w3.heap.size R4.out.lt (fun e => HNE.out _ e.symm rfl)).trans R4.out; obtain ⟨z0, z1, z2⟩ : W6.cell? ⟨w3.heap.size, 0, none⟩ = some (.int .i64 (t.len : Int)) ∧ W6.cell? ⟨w3.heap.size, 1, none⟩ = some (.int .i64 (t.dst : Int)) ∧ W6.cell? ⟨w3.heap.size, 2, none⟩ = some (.int .u8 (t.byt.toNat : Int)) := ⟨r6.cell rfl, r6.cell rfl, r6.cell rfl⟩))
      refine (HSZ.out W6).mono ?_
      rintro e W7 ⟨rfl, hb7⟩
      have hb26 := H4.out.2.trans hb6
      have HF : Hid ((l ++ [t]) ++ optF bs (i + sz) = optL bs ∧ OwnK W7 w2.heap.size A6 (m3 + 1) c6 (l ++ [t]) ∧ Below w2.heap.size w2 W7) := ⟨HOPT.out, ho6.below hb7, hb26.trans (hb7.mono hb26.size)⟩
      clear ho6 hb6 hg6 hb7 hb26
      go_wp2_with fail
      go_roundw
      case rel => exact ⟨i + sz, l ++ [t], A6, m3 + 1, c6, by go_num, hsz, rfl, by omega, HF⟩
      case measure => (simp [intOf]) <;> omega
    · obtain rfl : n = i := by omega
      have d0 : decide ((n : Int) < (n : Int)) = false := by simp
      have hop := HI.out.1
      rw [optF_end (by omega), List.append_nil] at hop
      have HOP := Lib.hid hop
      have hrw : Row (Value.int .i64) wr gp 3 (potL bs n) := HR.out.below HI.out.2.2 hgp
      have y0 : wr.cell? ⟨gp, 0, none⟩ = some (.int .i64 (potAt bs 0)) := by
        have h1 := hrw.cell (j := 0) 0 (by rw [potL_length]; omega)
        have h2 := potL_end (bs := bs) (i := 0) (Nat.zero_le _)
        rw [hl] at h2
        rw [h1]
        show some (Value.int .i64 (gi (potL bs n) 0)) = _
        rw [h2]
      have dz : decide ((0 : Int) < (n : Int) + 1) = true := decide_eq_true (by omega)
      clear hop hrw
      go_wp2_with fail
      go_quiet (fail)
      go_wp2_with fail
      go_ret3
      rw [HOP.out] at HI
      refine ⟨_, _, _, rfl, (HI.out.2.1.mono HB2.out.size).below ((Drawn.drewN _ _).below _), HB2.out.trans ((HI.out.2.2.mono HB2.out.size).trans ((Drawn.drewN _ _).below _))⟩
end Go.Proofs.YtohadkmaemmfgaaGreatDoor
namespace Go.Proofs.YtohadkmaemmfgaaGreatDoor
open Go.RowKit Go.Proofs
set_option linter.unusedVariables false
set_option linter.unusedSimpArgs false
attribute [local go_sem] Oper.semAt_some
theorem encode35_any (A : Option Addr) (n c : Nat) (l : List Tok) (w : World) (hx : Toks w A n c l) (hl : ∀ t ∈ l, TokLim t) (hn : n ≤ 1000000000) :
    Calls Tryz.prog 115 #[.slice A n c] w (RetBytes w (encT l).1 (encT l).2) := by
  have hln := hx.1
  have HCH := check35_any A n c l w hx hl hn
  by_cases h0 : chkL l = 0
  · have HE : Hid (encT l = if 524288 < sumP l then ([], 5) else (pack (bitsL l), 0)) := by show _ = _; unfold encT; rw [if_pos h0]
    have hn6 : n ≤ 65536 := by
      unfold chkL at h0
      split at h0
      · cases h0
      · omega
    have hF : chkF l 0 = 0 := by unfold chkL at h0; rw [if_neg (by omega)] at h0; exact h0
    have HRT := Lib.hid (chkF_right l 0 hF)
    have HBP := Lib.hid (bits_price l (chkF_right l 0 hF))
    rw [h0] at HCH
    replace HCH := Lib.hid HCH
    have HX := Lib.hid hx
    have HL := Lib.hid hl
    have HSB := Lib.hid (fun k (hk : k ≤ l.length) => show 0 ≤ sumP (l.take k) ∧ sumP (l.take k) ≤ 41 * (k : Int) by have h := sumP_bnd (l.take k); rw [List.length_take, Nat.min_eq_left hk] at h; exact h)
    have Hln := Lib.hid hln
    clear h0 hx hl hF hln
    go_enter Tryz.func115, Tryz.ntmps115
    go_wp2_with fail
    refine HCH.out.mono ?_
    rintro e w1 ⟨rfl, hb1⟩
    have HB1 := Lib.hid hb1
    clear hb1 HCH
    go_wp2_with fail
    go_loopw [5, 6] (fun vs vi wr => ∃ k : Nat, k ≤ n ∧ vi = .int .i64 (k : Int) ∧ vs = .int .i64 (sumP (l.take k)) ∧ Hid (Below w.heap.size w wr)) (fun _ vi _ => n - (intOf vi).toNat)
    case atStart => exact ⟨0, Nat.zero_le _, rfl, by simp [sumP], HB1⟩
    case round =>
      obtain ⟨k, hk, rfl, rfl, HB⟩ := hrel
      have hsb := HSB.out k (by rw [Hln.out]; exact hk)
      by_cases hlt : k < n
      · have d1 : decide ((k : Int) < (n : Int)) = true := decide_eq_true (by omega)
        have d1' : decide (k < n) = true := decide_eq_true hlt
        have hkl : k < l.length := by rw [Hln.out]; exact hlt
        obtain ⟨b, off, rfl, hbl, hcc⟩ := (HX.out.below HB.out (Nat.le_refl _)).2.2 (by omega)
        obtain ⟨x0, x1, x2⟩ := hcc k hlt
        have hlim := HL.out _ (tG_mem hkl)
        have hnx := sumP_next hkl
        obtain ⟨t, ht⟩ : ∃ t, t = tG l k := ⟨_, rfl⟩
        rw [← ht] at x0 x1 x2 hlim hnx
        have HP := Lib.hid (price35_any t wr hlim)
        have hp1 := pri_lo t
        have hp2 := pri_hi t
        obtain ⟨pr, hpr⟩ : ∃ pr, pr = priT t := ⟨_, rfl⟩
        obtain ⟨sm, hsm⟩ : ∃ sm, sm = sumP (l.take k) := ⟨_, rfl⟩
        rw [← hpr] at HP hp1 hp2 hnx
        rw [← hsm] at hsb hnx ⊢
        have HNX := Lib.hid hnx
        clear hkl hcc hlim ht hpr hsm hnx
        unfold tokV at HP
        go_wp2_with fail
        refine HP.out.mono ?_
        rintro e w3 ⟨rfl, hb3⟩
        have HB3 := Lib.hid (HB.out.trans (hb3.mono HB.out.size))
        clear hb3
        go_wp2_with fail
        go_roundw
        case rel => exact ⟨k + 1, by omega, by go_num, by rw [HNX.out]; try go_num, HB3⟩
        case measure => (simp [intOf]) <;> omega
      · obtain rfl : k = n := by omega
        have d1 : decide ((k : Int) < (k : Int)) = false := decide_eq_false (by omega)
        have d1' : decide (k < k) = false := decide_eq_false (by omega)
        have HTK : Hid (l.take k = l) := List.take_of_length_le (by rw [Hln.out]; exact Nat.le_refl _)
        rw [HTK.out] at hsb
        rw [HTK.out]
        obtain ⟨sm, hsm⟩ : ∃ sm, sm = sumP l := ⟨_, rfl⟩
        rw [← hsm] at hsb HE HBP ⊢
        clear hsm
        by_cases hbig : 524288 < sm
        · have d2 : decide (524288 < sm) = true := decide_eq_true hbig
          have HR : Hid (encT l = ([], 5)) := by show _ = _; rw [HE.out, if_pos hbig]
          clear hbig
          go_wp2_with fail
          go_ret2
          rw [HR.out]
          exact RetBytes.err rfl HB.out
        · have d2 : decide (524288 < sm) = false := decide_eq_false hbig
          have HR : Hid (encT l = (pack (bitsL l), 0)) := by show _ = _; rw [HE.out, if_neg hbig]
          have HBL : Hid (∀ j, j ≤ k → (bitsL (l.take j)).length ≤ 524288 ∧ (j < k → (bitsL (l.take j)).length + (tokB (tG l j)).length ≤ 524288)) := fun j hj => by
            have h1 : (bitsL l).length ≤ 524288 := by have := HBP.out; omega
            have h2 : ∀ j, (bitsL (l.take j)).length ≤ (bitsL l).length := fun j => by
              have h3 : bitsL l = bitsL (l.take j) ++ bitsL (l.drop j) := by rw [← bitsL_append, List.take_append_drop]
              rw [h3, List.length_append]; omega
            refine ⟨Nat.le_trans (h2 j) h1, fun hlt => ?_⟩
            have h4 := h2 (j + 1)
            rw [bitsL_next (by rw [Hln.out]; exact hlt), List.length_append] at h4
            omega
          obtain ⟨V, hV⟩ : ∃ V, V = wr := ⟨_, rfl⟩
          subst hV
          obtain ⟨w4, hw4⟩ : ∃ w4, w4 = V.alloc (.cells #[.slice none 0 0, .int .i64 0] 184) := ⟨_, rfl⟩
          have hb4 : Below V.heap.size V w4 := by rw [hw4]; exact balloc (Below.refl _ _) _
          have HI0 : Hid (rowV w4 V.heap.size 184 #[.slice none 0 0, .int .i64 0] ∧ Own encB w4 w.heap.size 5 none 0 0 (pack (bitsL (l.take 0))) ∧ Below w.heap.size w w4) := ⟨by rw [hw4]; exact rowV.new V _ _, by rw [List.take_zero]; exact Own.nil _ _ _ _, HB.out.trans (hb4.mono HB.out.size)⟩
          have HW4 := Lib.hid hw4
          have HVw := Lib.hid HB.out.size
          clear hbig hw4 hb4
          go_wp2_with (refine wpList_store_new rfl 184 (.tmp 7) (.tmp 29) rfl #[.slice none 0 0, .int .i64 0] 184 _ rfl rfl (by kernel_rfl) rfl (by simp [Value.oneCell']) ?_)
          rw [← HW4.out]
          go_wp2_with fail
          go_loopw [8] (fun vi wr => ∃ (j m3 c3 L3 : Nat) (A3 : Option Addr), j ≤ k ∧ vi = .int .i64 (j : Int) ∧ Hid (L3 = (bitsL (l.take j)).length) ∧ Hid (rowV wr V.heap.size 184 #[.slice A3 m3 c3, .int .i64 (L3 : Int)] ∧ Own encB wr w.heap.size 5 A3 m3 c3 (pack (bitsL (l.take j))) ∧ Below w.heap.size w wr)) (fun vi _ => k - (intOf vi).toNat)
          case atStart => exact ⟨0, 0, 0, 0, none, Nat.zero_le _, rfl, Lib.hid (by rw [List.take_zero]; rfl), HI0⟩
          case round =>
            obtain ⟨j, m3, c3, L3, A3, hj, rfl, HL3, HJ⟩ := hrel
            obtain ⟨x0, x1⟩ := two_cellsV HJ.out.1
            by_cases hlt : j < k
            · have e1 : decide ((j : Int) < (k : Int)) = true := decide_eq_true (by omega)
              have e1' : decide (j < k) = true := decide_eq_true hlt
              have hjl : j < l.length := by rw [Hln.out]; exact hlt
              obtain ⟨b, off, rfl, hbl, hcc⟩ := (HX.out.below HJ.out.2.2 (Nat.le_refl _)).2.2 (by omega)
              obtain ⟨y0, y1, y2⟩ := hcc j hlt
              have hmem := tG_mem hjl
              have hlim := HL.out _ hmem
              have hrt := HRT.out _ hmem
              have hbb := (HBL.out j hj).2 hlt
              have hnx := bitsL_next hjl
              obtain ⟨t, ht⟩ : ∃ t, t = tG l j := ⟨_, rfl⟩
              rw [← ht] at y0 y1 y2 hlim hrt hbb hnx
              have HC := code35_any A3 m3 c3 (bitsL (l.take j)) t wr.drew HJ.out.2.1.bytesB hrt hlim hbb
              rw [← HL3.out, ← hnx] at HC
              replace HC := Lib.hid HC
              obtain ⟨l2, hl2⟩ : ∃ l2, l2 = bitsL (l.take (j + 1)) := ⟨_, rfl⟩
              rw [← hl2] at HC
              have HL2 := Lib.hid hl2
              have hvlt := HJ.out.1.lt
              clear hjl hcc hmem hlim hrt hbb hnx ht hl2
              unfold tokV at HC
              go_wp2_with fail
              go_region_with (first
                | (go_at_call 188; refine HC.out.mono ?_; rintro e w5 ⟨A5, m5, c5, rfl, ho5, hb5⟩; have hr5 := (show rowV wr.drew V.heap.size 184 #[.slice A3 m3 c3, .int .i64 (L3 : Int)] from HJ.out.1).below hb5 hvlt; obtain ⟨z0, z1⟩ := two_cellsV hr5; have z2 := hr5.frozen 0; have z3 := hr5.frozen 1; have H5 : Hid (rowV ((w5.setCell ⟨V.heap.size, 0, none⟩ (.slice A5 m5 c5)).setCell ⟨V.heap.size, 1, none⟩ (.int .i64 (l2.length : Int))) V.heap.size 184 #[.slice A5 m5 c5, .int .i64 (l2.length : Int)] ∧ Own encB ((w5.setCell ⟨V.heap.size, 0, none⟩ (.slice A5 m5 c5)).setCell ⟨V.heap.size, 1, none⟩ (.int .i64 (l2.length : Int))) w.heap.size 5 A5 m5 c5 (pack l2) ∧ Below w.heap.size w ((w5.setCell ⟨V.heap.size, 0, none⟩ (.slice A5 m5 c5)).setCell ⟨V.heap.size, 1, none⟩ (.int .i64 (l2.length : Int)))) := ⟨(hr5.set 0 _).set 1 _, own_two (ho5.mono (Below.size (bdrew HJ.out.2.2 1))) hr5 _ _, Below.setCell (p := ⟨V.heap.size, 1, none⟩) (Below.setCell (p := ⟨V.heap.size, 0, none⟩) ((bdrew HJ.out.2.2 1).trans (hb5.mono (Below.size (bdrew HJ.out.2.2 1)))) HVw.out _) HVw.out _⟩; clear hr5 ho5 hb5))
              all_goals
                go_wp2_with fail
                go_roundw
                case rel => exact ⟨j + 1, m5, c5, l2.length, A5, by omega, by go_num, Lib.hid (by rw [HL2.out]), by rw [HL2.out] at H5 ⊢; exact H5⟩
                case measure => (simp [intOf]) <;> omega
            · obtain rfl : j = k := by omega
              have e1 : decide ((j : Int) < (j : Int)) = false := decide_eq_false (by omega)
              have e1' : decide (j < j) = false := decide_eq_false (by omega)
              have hown := HJ.out.2.1
              rw [HTK.out] at hown
              have HO := Lib.hid hown.bytesB
              clear hown
              go_wp2_with fail
              go_ret2
              rw [HR.out]
              exact RetBytes.mk rfl HO.out HJ.out.2.2
  · have HE : Hid (encT l = ([], chkL l)) := by show _ = _; unfold encT; rw [if_neg h0]
    have q0 : (chkL l != 0) = true := by simpa using h0
    rw [HE.out]
    obtain ⟨er, her⟩ : ∃ er, er = chkL l := ⟨_, rfl⟩
    rw [← her] at HCH q0 ⊢
    replace HCH := Lib.hid HCH
    clear her h0 hx hl HE
    go_enter Tryz.func115, Tryz.ntmps115
    go_wp2_with fail
    refine HCH.out.mono ?_
    rintro e w1 ⟨rfl, hb1⟩
    have HB1 := Lib.hid hb1
    clear hb1
    go_wp2_with fail
    go_ret2
    exact RetBytes.err rfl HB1.out
theorem optimal36_long (A : Option Addr) (n c : Nat) (w : World) (hn : 65536 < n) (hn2 : n ≤ 1000000000) :
    Calls Tryz.prog 114 #[.slice A n c] w fun e w' => e = .returned (.tuple #[.slice none 0 0, .int .i64 0, .int .i64 5]) ∧ w' = w := by
  have d65 : decide ((65536 : Int) < (n : Int)) = true := decide_eq_true (by omega)
  have d65' : decide (65536 < n) = true := decide_eq_true (by omega)
  have HP : Hid (Calls Tryz.prog 185 #[.slice A n c] w fun e w' => e = .returned (.tuple #[.slice none 0 0, .int .i64 5]) ∧ w' = w) := by
    show Calls _ _ _ _ _
    clear hn hn2
    go_enter Tryz.func185, Tryz.ntmps185
    go_wp2_with fail
    go_ret2
    exact ⟨rfl, rfl⟩
  clear hn hn2 d65 d65'
  go_enter Tryz.func114, Tryz.ntmps114
  go_wp2_with fail
  refine HP.out.mono ?_
  rintro e w1 ⟨rfl, hw⟩
  obtain rfl : w = w1 := hw.symm
  go_wp2_with fail
  go_ret3
  exact ⟨rfl, rfl⟩
theorem ref36F_any (A : Option Addr) (n c : Nat) (bs : List UInt8) (w : World) (hx : Bytes w A n c bs) (hn : n ≤ 1000000) :
    Calls Tryz.prog 56 #[.slice A n c] w (RetBytes w (lzF bs).1 (lzF bs).2) := by
  have hl := hx.1
  by_cases h6 : 65536 < n
  · have HR : Hid (lzF bs = ([], 5)) := by show _ = _; unfold lzF; rw [hl, if_pos h6]
    have HO := Lib.hid (optimal36_long A n c w h6 (by omega))
    rw [HR.out]
    clear h6 hx
    go_enter Tryz.func56, Tryz.ntmps56
    go_wp2_with fail
    refine HO.out.mono ?_
    rintro e w1 ⟨rfl, hw⟩
    obtain rfl : w = w1 := hw.symm
    go_wp2_with fail
    go_ret2
    exact RetBytes.err rfl (Below.refl _ _)
  · have HR : Hid (lzF bs = encT (optL bs)) := by show _ = _; unfold lzF; rw [hl, if_neg h6]
    have HO := Lib.hid (optimal36_any A n c bs w hx (by omega))
    rw [HR.out]
    have hlim : ∀ t ∈ optL bs, TokLim t := opt_lim _ 0 rfl
    have hlen : (optL bs).length ≤ 65536 := by have := (optF_check (bs := bs) (by omega) _ 0 rfl).2; unfold optL; omega
    obtain ⟨r, hr⟩ : ∃ r, r = encT (optL bs) := ⟨_, rfl⟩
    have HE := Lib.hid (fun A n c W hW hn => encode35_any A n c (optL bs) W hW hlim hn)
    rw [← hr] at HE ⊢
    clear h6 hx hlim hr
    go_enter Tryz.func56, Tryz.ntmps56
    go_wp2_with fail
    refine HO.out.mono ?_
    rintro e w1 ⟨A1, m1, c1, rfl, ho1, hb1⟩
    have hm1 := ho1.len
    have HT := Lib.hid (HE.out A1 m1 c1 w1 ho1.toks (by omega))
    have HB := Lib.hid hb1
    clear ho1 hb1
    go_wp2_with fail
    refine HT.out.mono ?_
    rintro e w2 ⟨A2, n2, c2, rfl, hx2, hb2⟩
    have HF := Lib.hid (And.intro hx2 (HB.out.trans (hb2.mono HB.out.size)))
    clear hx2 hb2
    go_wp2_with fail
    go_ret2
    exact RetBytes.mk rfl HF.out.1 HF.out.2
end Go.Proofs.YtohadkmaemmfgaaGreatDoor
