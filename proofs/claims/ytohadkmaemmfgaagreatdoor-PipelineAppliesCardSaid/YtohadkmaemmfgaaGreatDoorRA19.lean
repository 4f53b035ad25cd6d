/- Nh Ni. -/
import Derived.Test.YtohadkmaemmfgaaGreatDoorRA18
set_option maxRecDepth 100000
set_option maxHeartbeats 4000000
namespace Go.Proofs.YtohadkmaemmfgaaGreatDoor
open Go.RowKit Go.Proofs
set_option linter.unusedVariables false
set_option linter.unusedSimpArgs false
def potL (bs : List UInt8) (j : Nat) : List Int := (List.range (bs.length + 1)).map fun i => if bs.length - j ≤ i ∧ i < bs.length then potS (solve bs (bs.length - i)) 0 else 0
def stpL (bs : List UInt8) (j : Nat) : List Tok := (List.range bs.length).map fun i => if bs.length - j ≤ i then ((solve bs (bs.length - i)).getD 0 best0).2 else ⟨0, 0, 0⟩
theorem potL_length (bs : List UInt8) (j : Nat) : (potL bs j).length = bs.length + 1 := by simp [potL]
theorem stpL_length (bs : List UInt8) (j : Nat) : (stpL bs j).length = bs.length := by simp [stpL]
theorem potL_gi {bs : List UInt8} {j i : Nat} (h : i ≤ bs.length) : gi (potL bs j) i = if bs.length - j ≤ i ∧ i < bs.length then potS (solve bs (bs.length - i)) 0 else 0 := by
  unfold gi potL
  generalize hf : (fun i => if bs.length - j ≤ i ∧ i < bs.length then potS (solve bs (bs.length - i)) 0 else 0) = f
  have e : (if bs.length - j ≤ i ∧ i < bs.length then potS (solve bs (bs.length - i)) 0 else 0) = f i := by rw [← hf]
  rw [e]
  simp [List.getD, show i < bs.length + 1 by omega]
theorem stpL_tG {bs : List UInt8} {j i : Nat} (h : i < bs.length) : tG (stpL bs j) i = if bs.length - j ≤ i then ((solve bs (bs.length - i)).getD 0 best0).2 else ⟨0, 0, 0⟩ := by
  unfold tG stpL
  generalize hf : (fun i => if bs.length - j ≤ i then ((solve bs (bs.length - i)).getD 0 best0).2 else (⟨0, 0, 0⟩ : Tok)) = f
  have e : (if bs.length - j ≤ i then ((solve bs (bs.length - i)).getD 0 best0).2 else (⟨0, 0, 0⟩ : Tok)) = f i := by rw [← hf]
  rw [e]
  simp [List.getD, h]
theorem gi_ext {xs ys : List Int} (hl : xs.length = ys.length) (h : ∀ i, i < ys.length → gi xs i = gi ys i) : xs = ys := by
  refine List.ext_getElem hl fun i h1 h2 => ?_
  have := h i h2
  unfold gi at this
  rw [List.getD_eq_getElem?_getD, List.getD_eq_getElem?_getD, List.getElem?_eq_getElem h1, List.getElem?_eq_getElem h2] at this
  exact this
theorem tG_ext {xs ys : List Tok} (hl : xs.length = ys.length) (h : ∀ i, i < ys.length → tG xs i = tG ys i) : xs = ys := by
  refine List.ext_getElem hl fun i h1 h2 => ?_
  have := h i h2
  unfold tG at this
  rw [List.getD_eq_getElem?_getD, List.getD_eq_getElem?_getD, List.getElem?_eq_getElem h1, List.getElem?_eq_getElem h2] at this
  exact this
theorem gi_set {xs : List Int} {k i : Nat} {v : Int} (hk : k < xs.length) : gi (xs.set k v) i = if k = i then v else gi xs i := by
  unfold gi
  rw [List.getD_eq_getElem?_getD, List.getElem?_set]
  by_cases e : k = i
  · subst e; rw [if_pos rfl, if_pos hk, if_pos rfl]; rfl
  · rw [if_neg e, if_neg e, List.getD_eq_getElem?_getD]
theorem gi_rep (n i : Nat) : gi (List.replicate n 0) i = 0 := by
  unfold gi
  rw [List.getD_eq_getElem?_getD, List.getElem?_replicate]
  split <;> rfl
theorem tG_rep (n i : Nat) : tG (List.replicate n ⟨0, 0, 0⟩) i = ⟨0, 0, 0⟩ := by
  unfold tG
  rw [List.getD_eq_getElem?_getD, List.getElem?_replicate]
  split <;> rfl
theorem potL_zero (bs : List UInt8) : List.replicate (bs.length + 1) 0 = potL bs 0 := by
  refine gi_ext (by rw [potL_length]; simp) fun i hi => ?_
  rw [potL_length] at hi
  rw [gi_rep, potL_gi (by omega), if_neg (by omega)]
theorem stpL_zero (bs : List UInt8) : List.replicate bs.length ⟨0, 0, 0⟩ = stpL bs 0 := by
  refine tG_ext (by rw [stpL_length]; simp) fun i hi => ?_
  rw [stpL_length] at hi
  rw [tG_rep, stpL_tG hi, if_neg (by omega)]
theorem potL_next {bs : List UInt8} {j : Nat} (h : j < bs.length) : (potL bs j).set (bs.length - 1 - j) (bestP (costF (solve bs j)) (chL bs (bs.length - 1 - j))).1 = potL bs (j + 1) := by
  refine gi_ext (by rw [List.length_set, potL_length, potL_length]) fun i hi => ?_
  rw [potL_length] at hi
  rw [gi_set (by rw [potL_length]; omega), potL_gi (by omega), potL_gi (by omega)]
  by_cases e : bs.length - 1 - j = i
  · rw [if_pos e, if_pos (by omega), show bs.length - i = j + 1 by omega, solve]
    rfl
  · rw [if_neg e]
    by_cases h2 : bs.length - j ≤ i ∧ i < bs.length
    · rw [if_pos h2, if_pos (by omega)]
    · rw [if_neg h2, if_neg (by omega)]
theorem stpL_next {bs : List UInt8} {j : Nat} (h : j < bs.length) : (stpL bs j).set (bs.length - 1 - j) (bestP (costF (solve bs j)) (chL bs (bs.length - 1 - j))).2 = stpL bs (j + 1) := by
  refine tG_ext (by rw [List.length_set, stpL_length, stpL_length]) fun i hi => ?_
  rw [stpL_length] at hi
  rw [tG_set (by rw [stpL_length]; omega), stpL_tG hi, stpL_tG hi]
  by_cases e : bs.length - 1 - j = i
  · rw [if_pos e, if_pos (by omega), show bs.length - i = j + 1 by omega, solve]
    rfl
  · rw [if_neg e]
    by_cases h2 : bs.length - j ≤ i
    · rw [if_pos h2, if_pos (by omega)]
    · rw [if_neg h2, if_neg (by omega)]
theorem solve_shift {bs : List UInt8} {j k : Nat} (h : k ≤ j) : (solve bs k)[0]? = (solve bs j)[j - k]? := by
  have := solve_drop bs j k h
  rw [← this, List.getElem?_drop, Nat.add_zero]
theorem potL_at {bs : List UInt8} {j i : Nat} (hj : j < bs.length) (h1 : bs.length - 1 - j < i) (h2 : i ≤ bs.length) : gi (potL bs j) i = potS (solve bs j) (i - (bs.length - 1 - j) - 1) := by
  rw [potL_gi h2]
  by_cases e : i = bs.length
  · rw [if_neg (by omega), show i - (bs.length - 1 - j) - 1 = j by omega]
    unfold potS
    rw [List.getElem?_eq_none (by rw [solve_length]; exact Nat.le_refl _)]
  · rw [if_pos (by omega)]
    unfold potS
    rw [solve_shift (show bs.length - i ≤ j by omega), show j - (bs.length - i) = i - (bs.length - 1 - j) - 1 by omega]
theorem potL_end {bs : List UInt8} {i : Nat} (h : i ≤ bs.length) : gi (potL bs bs.length) i = potAt bs i := by
  rw [potL_gi h]
  unfold potAt solvP
  by_cases e : i = bs.length
  · rw [if_neg (by omega), e]
    unfold potS
    rw [List.getElem?_eq_none (by rw [solve_length]; exact Nat.le_refl _)]
  · rw [if_pos (by omega)]
    unfold potS
    rw [solve_shift (show bs.length - i ≤ bs.length by omega), show bs.length - (bs.length - i) = i by omega]
theorem stpL_end {bs : List UInt8} {i : Nat} (h : i < bs.length) : tG (stpL bs bs.length) i = stepAt bs i := by
  rw [stpL_tG h, if_pos (by omega)]
  unfold stepAt solvP
  rw [List.getD_eq_getElem?_getD, List.getD_eq_getElem?_getD, solve_shift (show bs.length - i ≤ bs.length by omega), show bs.length - (bs.length - i) = i by omega]
theorem potS_bnd {bs : List UInt8} {j : Nat} (hj : j ≤ 65536) (i : Nat) : 0 ≤ potS (solve bs j) i ∧ potS (solve bs j) i ≤ 3000000 :=
  ⟨potS_lo _ (solve_lo bs j) i, Int.le_trans (potS_hi _ (41 * (j : Int)) (by omega) (solve_hi bs j) i) (by omega)⟩
theorem solve_any (A : Option Addr) (n c : Nat) (bs : List UInt8) (w : World) (hx : Bytes w A n c bs) (hn : n ≤ 65536) :
    Calls Tryz.prog 152 #[.slice A n c] w fun e w' => ∃ gp gs, e = .returned (.tuple #[.slice (some ⟨gp, 0, none⟩) (n + 1) (n + 1), .slice (some ⟨gs, 0, none⟩) n n]) ∧ Row (Value.int .i64) w' gp 3 (potL bs n) ∧ RowT w' gs n (stpL bs n) ∧ Below w.heap.size w w' := by
  have hl := hx.1
  have mk1 := run_make_row (P := Tryz.prog) (t := 52) (e := 3) (enc := Value.int .i64) (zero := 0) (bytes := 8) (by kernel_rfl) (by kernel_rfl) rfl ((n : Int) + 1) (by omega) (by omega) (by omega)
  have mk2 := run_make_tok n (by omega)
  rw [show ((n : Int) + 1).toNat = n + 1 by omega] at mk1
  go_enter Tryz.func152, Tryz.ntmps152
  go_wp2_with fail
  go_region
  · obtain ⟨w2, hw2⟩ : ∃ w2, w2 = ((w.alloc (rowObj (Value.int .i64) 3 (List.replicate (n + 1) 0))).alloc (.cells (zT n) 180)).drew := ⟨_, rfl⟩
    have hb2 : Below w.heap.size w w2 := by rw [hw2]; exact bdrew (balloc (balloc (Below.refl _ _) _) _) 1
    have r1 : Row (Value.int .i64) w2 w.heap.size 3 (potL bs 0) := by
      rw [hw2, ← potL_zero, hl]
      have r0 := Row.new (enc := Value.int .i64) w 3 (List.replicate (n + 1) (0 : Int))
      exact (r0.below (balloc (Below.refl (w.alloc (rowObj (Value.int .i64) 3 (List.replicate (n + 1) 0))).heap.size _) (.cells (zT n) 180)) r0.lt).drew
    have r2 : RowT w2 (w.heap.size + 1) n (stpL bs 0) := by
      have := zT_row (w.alloc (rowObj (Value.int .i64) 3 (List.replicate (n + 1) 0))) n
      rw [World.size_alloc] at this
      rw [hw2, ← stpL_zero, hl]
      exact this
    have HI0 : Hid (Row (Value.int .i64) w2 w.heap.size 3 (potL bs 0) ∧ RowT w2 (w.heap.size + 1) n (stpL bs 0) ∧ Below w.heap.size w w2) := ⟨r1, r2, hb2⟩
    have HX := Lib.hid hx
    rw [← hw2]
    clear hw2 hb2 r1 r2 mk1 mk2 hx
    go_wp2_with fail
    go_loopw [6, 7, 17] (fun _ _ i wr => ∃ j : Nat, j ≤ n ∧ i = .int .i64 (j : Int) ∧ Hid (Row (Value.int .i64) wr w.heap.size 3 (potL bs j) ∧ RowT wr (w.heap.size + 1) n (stpL bs j) ∧ Below w.heap.size w wr)) (fun _ _ i _ => n - (intOf i).toNat)
    case atStart => exact ⟨0, Nat.zero_le _, rfl, HI0⟩
    case round =>
      obtain ⟨j, hj, rfl, HI⟩ := hrel
      by_cases hlt : j < n
      · have d0 : decide ((j : Int) < (n : Int)) = true := decide_eq_true (by omega)
        have d0' : decide (j < n) = true := decide_eq_true hlt
        obtain ⟨k, hk⟩ : ∃ k, k = n - 1 - j := ⟨_, rfl⟩
        have e1 : (n : Int) - 1 - (j : Int) = (k : Int) := by omega
        have hkn : k < n := by omega
        have hN1 := potL_next (bs := bs) (j := j) (by omega)
        have hN2 := stpL_next (bs := bs) (j := j) (by omega)
        rw [hl, ← hk] at hN1 hN2
        have hints : Ints wr (some ⟨w.heap.size, 0, none⟩) (n + 1) (n + 1) (potL bs j) := HI.out.1.ints (by rw [potL_length, hl]) (Nat.le_refl _)
        have HB := best_any A n c k bs (some ⟨w.heap.size, 0, none⟩) (n + 1) (n + 1) (potL bs j) (solve bs j) wr (HX.out.below HI.out.2.2) hn hkn hints rfl (fun i h1 h2 => by have := potL_at (bs := bs) (j := j) (i := i) (by omega) (by omega) (by omega); rw [this, hl, ← hk]) (fun i => potS_bnd (by omega) i)
        obtain ⟨p, t, hpt⟩ : ∃ p t, (p, t) = bestP (costF (solve bs j)) (chL bs k) := ⟨_, _, rfl⟩
        rw [← hpt] at HB hN1 hN2
        dsimp only at HB hN1 hN2
        replace HB := Lib.hid HB
        have HN := Lib.hid (And.intro hN1 hN2)
        clear hN1 hN2 hints hpt
        have FACTS : Hid (∀ W, Below wr.heap.size wr W → (W.cell? ⟨(w.heap.size + 1), k * 3, none⟩ = some (.int .i64 ((tG (stpL bs j) k).len : Int)) ∧ W.cell? ⟨(w.heap.size + 1), k * 3 + 1, none⟩ = some (.int .i64 ((tG (stpL bs j) k).dst : Int)) ∧ W.cell? ⟨(w.heap.size + 1), k * 3 + 2, none⟩ = some (.int .u8 ((tG (stpL bs j) k).byt.toNat : Int))) ∧ (∀ q, W.frozen? ⟨(w.heap.size + 1), q, none⟩ = false) ∧
          (((W.setCell ⟨(w.heap.size + 1), k * 3, none⟩ (.int .i64 (t.len : Int))).setCell ⟨(w.heap.size + 1), k * 3 + 1, none⟩ (.int .i64 (t.dst : Int))).setCell ⟨(w.heap.size + 1), k * 3 + 2, none⟩ (.int .u8 (t.byt.toNat : Int))).cell? ⟨w.heap.size, k, none⟩ = some (.int .i64 (gi (potL bs j) k)) ∧
          (((W.setCell ⟨(w.heap.size + 1), k * 3, none⟩ (.int .i64 (t.len : Int))).setCell ⟨(w.heap.size + 1), k * 3 + 1, none⟩ (.int .i64 (t.dst : Int))).setCell ⟨(w.heap.size + 1), k * 3 + 2, none⟩ (.int .u8 (t.byt.toNat : Int))).frozen? ⟨w.heap.size, k, none⟩ = false ∧
          (Row (Value.int .i64) ((((W.setCell ⟨(w.heap.size + 1), k * 3, none⟩ (.int .i64 (t.len : Int))).setCell ⟨(w.heap.size + 1), k * 3 + 1, none⟩ (.int .i64 (t.dst : Int))).setCell ⟨(w.heap.size + 1), k * 3 + 2, none⟩ (.int .u8 (t.byt.toNat : Int))).setCell ⟨w.heap.size, k, none⟩ (.int .i64 p)) w.heap.size 3 (potL bs (j + 1)) ∧
            RowT ((((W.setCell ⟨(w.heap.size + 1), k * 3, none⟩ (.int .i64 (t.len : Int))).setCell ⟨(w.heap.size + 1), k * 3 + 1, none⟩ (.int .i64 (t.dst : Int))).setCell ⟨(w.heap.size + 1), k * 3 + 2, none⟩ (.int .u8 (t.byt.toNat : Int))).setCell ⟨w.heap.size, k, none⟩ (.int .i64 p)) (w.heap.size + 1) n (stpL bs (j + 1)) ∧
            Below w.heap.size w ((((W.setCell ⟨(w.heap.size + 1), k * 3, none⟩ (.int .i64 (t.len : Int))).setCell ⟨(w.heap.size + 1), k * 3 + 1, none⟩ (.int .i64 (t.dst : Int))).setCell ⟨(w.heap.size + 1), k * 3 + 2, none⟩ (.int .u8 (t.byt.toNat : Int))).setCell ⟨w.heap.size, k, none⟩ (.int .i64 p)))) := fun W hb => by
          have a1 : RowT W (w.heap.size + 1) n (stpL bs j) := HI.out.2.1.keep (hb.block _ HI.out.2.1.lt)
          have a2 : Row (Value.int .i64) W w.heap.size 3 (potL bs j) := HI.out.1.below hb HI.out.1.lt
          have b1 := a1.set hkn t
          have b2 : Row (Value.int .i64) (((W.setCell ⟨(w.heap.size + 1), k * 3, none⟩ (.int .i64 (t.len : Int))).setCell ⟨(w.heap.size + 1), k * 3 + 1, none⟩ (.int .i64 (t.dst : Int))).setCell ⟨(w.heap.size + 1), k * 3 + 2, none⟩ (.int .u8 (t.byt.toNat : Int))) w.heap.size 3 (potL bs j) :=
            ((a2.far (p := ⟨(w.heap.size + 1), k * 3, none⟩) (by show w.heap.size ≠ (w.heap.size + 1); omega) _).far (p := ⟨(w.heap.size + 1), k * 3 + 1, none⟩) (by show w.heap.size ≠ (w.heap.size + 1); omega) _).far (p := ⟨(w.heap.size + 1), k * 3 + 2, none⟩) (by show w.heap.size ≠ (w.heap.size + 1); omega) _
          refine ⟨a1.cells hkn, a1.frozen, b2.cell (j := k) 0 (by rw [potL_length]; omega), b2.frozen k, ?_, ?_, ?_⟩
          · rw [← HN.out.1]; exact b2.set k p
          · rw [← HN.out.2]
            exact b1.keep (Below.heap_setCell _ ⟨w.heap.size, k, none⟩ _ _ (by show (w.heap.size + 1) ≠ w.heap.size; omega))
          · have hbw := HI.out.2.2.trans (hb.mono HI.out.2.2.size)
            exact Below.setCell (p := ⟨w.heap.size, k, none⟩) (Below.setCell (p := ⟨(w.heap.size + 1), k * 3 + 2, none⟩) (Below.setCell (p := ⟨(w.heap.size + 1), k * 3 + 1, none⟩) (Below.setCell (p := ⟨(w.heap.size + 1), k * 3, none⟩) hbw (by show _ ≤ (w.heap.size + 1); omega) _) (by show _ ≤ (w.heap.size + 1); omega) _) (by show _ ≤ (w.heap.size + 1); omega) _) (by show _ ≤ w.heap.size; omega) _
        have dk : decide ((k : Int) < (n : Int)) = true := decide_eq_true (by omega)
        have dk2 : decide ((k : Int) < (n : Int) + 1) = true := decide_eq_true (by omega)
        have dk3 : decide (k < n) = true := decide_eq_true hkn
        have dk4 : decide (k < n + 1) = true := decide_eq_true (by omega)
        clear hk
        go_wp2_with fail
        refine HB.out.mono ?_
        rintro e w3 ⟨rfl, hb3⟩
        obtain ⟨⟨y0, y1, y2⟩, yf, y3, y4, -, -, -⟩ := FACTS.out w3 hb3
        have f0 := yf (k * 3)
        have f1 := yf (k * 3 + 1)
        have f2 := yf (k * 3 + 2)
        have HB3 := Lib.hid hb3
        clear hb3 yf
        unfold tokV
        go_wp2_with fail
        go_roundw
        case rel => exact ⟨j + 1, by omega, by go_num, Lib.hid (FACTS.out w3 HB3.out).2.2.2.2⟩
        case measure => (simp [intOf]) <;> omega
      · obtain rfl : n = j := by omega
        have d0 : decide ((n : Int) < (n : Int)) = false := by simp
        go_wp2_with fail
        go_ret2
        exact ⟨_, _, rfl, HI.out.1, HI.out.2.1, HI.out.2.2⟩
  · obtain ⟨w2, hw2⟩ : ∃ w2, w2 = ((w.alloc (.cells (zT n) 180)).alloc (rowObj (Value.int .i64) 3 (List.replicate (n + 1) 0))).drew := ⟨_, rfl⟩
    have hb2 : Below w.heap.size w w2 := by rw [hw2]; exact bdrew (balloc (balloc (Below.refl _ _) _) _) 1
    have r1 : Row (Value.int .i64) w2 (w.heap.size + 1) 3 (potL bs 0) := by
      rw [hw2, ← potL_zero, hl]
      have r0 := Row.new (enc := Value.int .i64) (w.alloc (.cells (zT n) 180)) 3 (List.replicate (n + 1) (0 : Int))
      rw [World.size_alloc] at r0
      exact r0.drew
    have r2 : RowT w2 w.heap.size n (stpL bs 0) := by
      have r0 := zT_row w n
      rw [hw2, ← stpL_zero, hl]
      exact r0.keep ((balloc (Below.refl (w.alloc (.cells (zT n) 180)).heap.size _) (rowObj (Value.int .i64) 3 (List.replicate (n + 1) 0))).block _ r0.lt)
    have HI0 : Hid (Row (Value.int .i64) w2 (w.heap.size + 1) 3 (potL bs 0) ∧ RowT w2 w.heap.size n (stpL bs 0) ∧ Below w.heap.size w w2) := ⟨r1, r2, hb2⟩
    have HX := Lib.hid hx
    rw [← hw2]
    clear hw2 hb2 r1 r2 mk1 mk2 hx
    go_wp2_with fail
    go_loopw [6, 7, 17] (fun _ _ i wr => ∃ j : Nat, j ≤ n ∧ i = .int .i64 (j : Int) ∧ Hid (Row (Value.int .i64) wr (w.heap.size + 1) 3 (potL bs j) ∧ RowT wr w.heap.size n (stpL bs j) ∧ Below w.heap.size w wr)) (fun _ _ i _ => n - (intOf i).toNat)
    case atStart => exact ⟨0, Nat.zero_le _, rfl, HI0⟩
    case round =>
      obtain ⟨j, hj, rfl, HI⟩ := hrel
      by_cases hlt : j < n
      · have d0 : decide ((j : Int) < (n : Int)) = true := decide_eq_true (by omega)
        have d0' : decide (j < n) = true := decide_eq_true hlt
        obtain ⟨k, hk⟩ : ∃ k, k = n - 1 - j := ⟨_, rfl⟩
        have e1 : (n : Int) - 1 - (j : Int) = (k : Int) := by omega
        have hkn : k < n := by omega
        have hN1 := potL_next (bs := bs) (j := j) (by omega)
        have hN2 := stpL_next (bs := bs) (j := j) (by omega)
        rw [hl, ← hk] at hN1 hN2
        have hints : Ints wr (some ⟨w.heap.size + 1, 0, none⟩) (n + 1) (n + 1) (potL bs j) := HI.out.1.ints (by rw [potL_length, hl]) (Nat.le_refl _)
        have HB := best_any A n c k bs (some ⟨w.heap.size + 1, 0, none⟩) (n + 1) (n + 1) (potL bs j) (solve bs j) wr (HX.out.below HI.out.2.2) hn hkn hints rfl (fun i h1 h2 => by have := potL_at (bs := bs) (j := j) (i := i) (by omega) (by omega) (by omega); rw [this, hl, ← hk]) (fun i => potS_bnd (by omega) i)
        obtain ⟨p, t, hpt⟩ : ∃ p t, (p, t) = bestP (costF (solve bs j)) (chL bs k) := ⟨_, _, rfl⟩
        rw [← hpt] at HB hN1 hN2
        dsimp only at HB hN1 hN2
        replace HB := Lib.hid HB
        have HN := Lib.hid (And.intro hN1 hN2)
        clear hN1 hN2 hints hpt
        have FACTS : Hid (∀ W, Below wr.heap.size wr W → (W.cell? ⟨w.heap.size, k * 3, none⟩ = some (.int .i64 ((tG (stpL bs j) k).len : Int)) ∧ W.cell? ⟨w.heap.size, k * 3 + 1, none⟩ = some (.int .i64 ((tG (stpL bs j) k).dst : Int)) ∧ W.cell? ⟨w.heap.size, k * 3 + 2, none⟩ = some (.int .u8 ((tG (stpL bs j) k).byt.toNat : Int))) ∧ (∀ q, W.frozen? ⟨w.heap.size, q, none⟩ = false) ∧
          (((W.setCell ⟨w.heap.size, k * 3, none⟩ (.int .i64 (t.len : Int))).setCell ⟨w.heap.size, k * 3 + 1, none⟩ (.int .i64 (t.dst : Int))).setCell ⟨w.heap.size, k * 3 + 2, none⟩ (.int .u8 (t.byt.toNat : Int))).cell? ⟨w.heap.size + 1, k, none⟩ = some (.int .i64 (gi (potL bs j) k)) ∧
          (((W.setCell ⟨w.heap.size, k * 3, none⟩ (.int .i64 (t.len : Int))).setCell ⟨w.heap.size, k * 3 + 1, none⟩ (.int .i64 (t.dst : Int))).setCell ⟨w.heap.size, k * 3 + 2, none⟩ (.int .u8 (t.byt.toNat : Int))).frozen? ⟨w.heap.size + 1, k, none⟩ = false ∧
          (Row (Value.int .i64) ((((W.setCell ⟨w.heap.size, k * 3, none⟩ (.int .i64 (t.len : Int))).setCell ⟨w.heap.size, k * 3 + 1, none⟩ (.int .i64 (t.dst : Int))).setCell ⟨w.heap.size, k * 3 + 2, none⟩ (.int .u8 (t.byt.toNat : Int))).setCell ⟨w.heap.size + 1, k, none⟩ (.int .i64 p)) (w.heap.size + 1) 3 (potL bs (j + 1)) ∧
            RowT ((((W.setCell ⟨w.heap.size, k * 3, none⟩ (.int .i64 (t.len : Int))).setCell ⟨w.heap.size, k * 3 + 1, none⟩ (.int .i64 (t.dst : Int))).setCell ⟨w.heap.size, k * 3 + 2, none⟩ (.int .u8 (t.byt.toNat : Int))).setCell ⟨w.heap.size + 1, k, none⟩ (.int .i64 p)) w.heap.size n (stpL bs (j + 1)) ∧
            Below w.heap.size w ((((W.setCell ⟨w.heap.size, k * 3, none⟩ (.int .i64 (t.len : Int))).setCell ⟨w.heap.size, k * 3 + 1, none⟩ (.int .i64 (t.dst : Int))).setCell ⟨w.heap.size, k * 3 + 2, none⟩ (.int .u8 (t.byt.toNat : Int))).setCell ⟨w.heap.size + 1, k, none⟩ (.int .i64 p)))) := fun W hb => by
          have a1 : RowT W w.heap.size n (stpL bs j) := HI.out.2.1.keep (hb.block _ HI.out.2.1.lt)
          have a2 : Row (Value.int .i64) W (w.heap.size + 1) 3 (potL bs j) := HI.out.1.below hb HI.out.1.lt
          have b1 := a1.set hkn t
          have b2 : Row (Value.int .i64) (((W.setCell ⟨w.heap.size, k * 3, none⟩ (.int .i64 (t.len : Int))).setCell ⟨w.heap.size, k * 3 + 1, none⟩ (.int .i64 (t.dst : Int))).setCell ⟨w.heap.size, k * 3 + 2, none⟩ (.int .u8 (t.byt.toNat : Int))) (w.heap.size + 1) 3 (potL bs j) :=
            ((a2.far (p := ⟨w.heap.size, k * 3, none⟩) (by show (w.heap.size + 1) ≠ w.heap.size; omega) _).far (p := ⟨w.heap.size, k * 3 + 1, none⟩) (by show (w.heap.size + 1) ≠ w.heap.size; omega) _).far (p := ⟨w.heap.size, k * 3 + 2, none⟩) (by show (w.heap.size + 1) ≠ w.heap.size; omega) _
          refine ⟨a1.cells hkn, a1.frozen, b2.cell (j := k) 0 (by rw [potL_length]; omega), b2.frozen k, ?_, ?_, ?_⟩
          · rw [← HN.out.1]; exact b2.set k p
          · rw [← HN.out.2]
            exact b1.keep (Below.heap_setCell _ ⟨w.heap.size + 1, k, none⟩ _ _ (by show w.heap.size ≠ (w.heap.size + 1); omega))
          · have hbw := HI.out.2.2.trans (hb.mono HI.out.2.2.size)
            exact Below.setCell (p := ⟨w.heap.size + 1, k, none⟩) (Below.setCell (p := ⟨w.heap.size, k * 3 + 2, none⟩) (Below.setCell (p := ⟨w.heap.size, k * 3 + 1, none⟩) (Below.setCell (p := ⟨w.heap.size, k * 3, none⟩) hbw (by show _ ≤ w.heap.size; omega) _) (by show _ ≤ w.heap.size; omega) _) (by show _ ≤ w.heap.size; omega) _) (by show _ ≤ (w.heap.size + 1); omega) _
        have dk : decide ((k : Int) < (n : Int)) = true := decide_eq_true (by omega)
        have dk2 : decide ((k : Int) < (n : Int) + 1) = true := decide_eq_true (by omega)
        have dk3 : decide (k < n) = true := decide_eq_true hkn
        have dk4 : decide (k < n + 1) = true := decide_eq_true (by omega)
        clear hk
        go_wp2_with fail
        refine HB.out.mono ?_
        rintro e w3 ⟨rfl, hb3⟩
        obtain ⟨⟨y0, y1, y2⟩, yf, y3, y4, -, -, -⟩ := FACTS.out w3 hb3
        have f0 := yf (k * 3)
        have f1 := yf (k * 3 + 1)
        have f2 := yf (k * 3 + 2)
        have HB3 := Lib.hid hb3
        clear hb3 yf
        unfold tokV
        go_wp2_with fail
        go_roundw
        case rel => exact ⟨j + 1, by omega, by go_num, Lib.hid (FACTS.out w3 HB3.out).2.2.2.2⟩
        case measure => (simp [intOf]) <;> omega
      · obtain rfl : n = j := by omega
        have d0 : decide ((n : Int) < (n : Int)) = false := by simp
        go_wp2_with fail
        go_ret2
        exact ⟨_, _, rfl, HI.out.1, HI.out.2.1, HI.out.2.2⟩
def tokL (t : Tok) : List Value := [.int .i64 (t.len : Int), .int .i64 (t.dst : Int), .int .u8 (t.byt.toNat : Int)]
theorem tokL_one : ∀ (x : Tok), ∀ u ∈ tokL x, u.oneCell' = true := by
  intro x u hu
  simp only [tokL, List.mem_cons, List.not_mem_nil, or_false] at hu
  rcases hu with rfl | rfl | rfl <;> rfl
theorem tokZ_size : (Value.agg (tokV ⟨0, 0, 0⟩)).cells.size = 3 := rfl
abbrev OwnK (w : World) (B : Nat) (A : Option Addr) (n c : Nat) (l : List Tok) : Prop := OwnS tokL 3 w B 180 A n c l
theorem optimal_any (A : Option Addr) (n c : Nat) (bs : List UInt8) (w : World) (hx : Bytes w A n c bs) (hn : n ≤ 65536) :
    Calls Tryz.prog 85 #[.slice A n c] w fun e w' => ∃ A2 m c2, e = .returned (.tuple #[.slice A2 m c2, .int .i64 (potAt bs 0), .int .i64 0]) ∧ OwnK w' w.heap.size A2 m c2 (optL bs) ∧ Below w.heap.size w w' := by
  have hl := hx.1
  have d65 : decide ((65536 : Int) < (n : Int)) = false := decide_eq_false (by omega)
  have d65' : decide (65536 < n) = false := decide_eq_false (by omega)
  have HS := Lib.hid (solve_any A n c bs w hx hn)
  clear hx
  go_enter Tryz.func85, Tryz.ntmps85
  go_wp2_with fail
  refine HS.out.mono ?_
  rintro e w2 ⟨gp, gs, rfl, hrow, htok, hb2⟩
  have HI0 : Hid (([] : List Tok) ++ optF bs 0 = optL bs ∧ OwnK w2 w2.heap.size none 0 0 [] ∧ Below w2.heap.size w2 w2) := ⟨rfl, OwnS.nil _ _ _ _ _, Below.refl _ _⟩
  have HR := Lib.hid hrow
  have HT := Lib.hid htok
  have HB2 := Lib.hid hb2
  have hgp := hrow.lt
  clear hrow htok hb2 HS
  go_wp2_with fail
  go_loopw [7, 8] (fun o a wr => ∃ (i : Nat) (l : List Tok) (A3 : Option Addr) (m3 c3 : Nat), a = .int .i64 (i : Int) ∧ i ≤ n ∧ o = .slice A3 m3 c3 ∧ m3 ≤ i ∧ Hid (l ++ optF bs i = optL bs ∧ OwnK wr w2.heap.size A3 m3 c3 l ∧ Below w2.heap.size w2 wr)) (fun _ a _ => n - (intOf a).toNat)
  case atStart => exact ⟨0, [], none, 0, 0, rfl, Nat.zero_le _, rfl, Nat.le_refl _, HI0⟩
  case round =>
    obtain ⟨i, l, A3, m3, c3, rfl, hi, rfl, hm, HI⟩ := hrel
    by_cases hlt : i < n
    · have d0 : decide ((i : Int) < (n : Int)) = true := decide_eq_true (by omega)
      have d0' : decide (i < n) = true := decide_eq_true hlt
      have hil : i < bs.length := by omega
      have hst := step_at hil
      have hlim := tok_lim hst
      have hsz := hst.2.2.1
      have hsz1 := tsz_pos (stepAt bs i)
      have hopt := HI.out.1
      rw [optF_more hil] at hopt
      have hte := stpL_end hil
      rw [hl] at hte hsz
      obtain ⟨t, ht⟩ : ∃ t, t = stepAt bs i := ⟨_, rfl⟩
      rw [← ht] at hlim hsz hsz1 hopt hte
      have HOPT : Hid ((l ++ [t]) ++ optF bs (i + tsz t) = optL bs) := by show _ = _; rw [← hopt]; simp
      have HSZ := Lib.hid (fun W => psize_any t W hlim)
      obtain ⟨sz, hsze⟩ : ∃ sz, sz = tsz t := ⟨_, rfl⟩
      rw [← hsze] at HSZ HOPT hsz hsz1
      have hB := HI.out.2.2.size
      have CELLS : Hid (∀ W, Below w2.heap.size w2 W → W.cell? ⟨gs, i * 3, none⟩ = some (.int .i64 (t.len : Int)) ∧ W.cell? ⟨gs, i * 3 + 1, none⟩ = some (.int .i64 (t.dst : Int)) ∧ W.cell? ⟨gs, i * 3 + 2, none⟩ = some (.int .u8 (t.byt.toNat : Int))) := fun W hb => by
        have := (HT.out.keep (hb.block _ HT.out.lt)).cells hlt
        rw [hte] at this
        exact this
      obtain ⟨y0, y1, y2⟩ := CELLS.out wr HI.out.2.2
      have hown := HI.out.2.1
      have m1 : Hid (m3 + 1 ≤ maxLen ∧ (m3 + 1) * 24 ≤ 140737488355328) := ⟨by simp [maxLen]; omega, by omega⟩
      have dI : decide ((i : Int) < (n : Int)) = true := d0
      clear hst hopt hte ht hsze hlim
      go_wp2_with (first
        | (at_builtin; refine wpList_pushS (enc := tokL) rfl (.tmp 28) (.tmp 33) rfl uTks infoTk tokL_one tokZ_size (fun _ => rfl) (by decide) rfl hown hB t _ rfl rfl m1.out.1 m1.out.2 ?_; intro A6 c6 W6 ho6 hb6 hg6; have hb26 := HI.out.2.2.trans hb6; obtain ⟨x0, x1, x2⟩ := CELLS.out W6 hb26))
      refine (HSZ.out W6).mono ?_
      rintro e W7 ⟨rfl, hb7⟩
      have HF : Hid ((l ++ [t]) ++ optF bs (i + sz) = optL bs ∧ OwnK W7 w2.heap.size A6 (m3 + 1) c6 (l ++ [t]) ∧ Below w2.heap.size w2 W7) := ⟨HOPT.out, ho6.below hb7, hb26.trans (hb7.mono hb26.size)⟩
      go_wp2_with fail
      go_roundw
      case rel => exact ⟨i + sz, l ++ [t], A6, m3 + 1, c6, by go_num, hsz, rfl, by omega, HF⟩
      case measure => (simp [intOf]) <;> omega
    · obtain rfl : n = i := by omega
      have d0 : decide ((n : Int) < (n : Int)) = false := by simp
      have hop := HI.out.1
      rw [optF_end (by omega), List.append_nil] at hop
      have HOP := Lib.hid hop
      have hrw : Row (Value.int .i64) wr gp 3 (potL bs n) := HR.out.below HI.out.2.2 hgp
      have y0 : wr.cell? ⟨gp, 0, none⟩ = some (.int .i64 (potAt bs 0)) := by
        have h1 := hrw.cell (j := 0) 0 (by rw [potL_length]; omega)
        have h2 := potL_end (bs := bs) (i := 0) (Nat.zero_le _)
        rw [hl] at h2
        rw [h1]
        show some (Value.int .i64 (gi (potL bs n) 0)) = _
        rw [h2]
      have dz : decide ((0 : Int) < (n : Int) + 1) = true := decide_eq_true (by omega)
      clear hop hrw
      go_wp2_with fail
      go_quiet (fail)
      go_wp2_with fail
      go_ret3
      rw [HOP.out] at HI
      refine ⟨_, _, _, rfl, (HI.out.2.1.mono HB2.out.size).below ((Drawn.drewN _ _).below _), HB2.out.trans ((HI.out.2.2.mono HB2.out.size).trans ((Drawn.drewN _ _).below _))⟩
theorem optimal_long (A : Option Addr) (n c : Nat) (w : World) (hn : 65536 < n) (hn2 : n ≤ 1000000000) :
    Calls Tryz.prog 85 #[.slice A n c] w fun e w' => e = .returned (.tuple #[.slice none 0 0, .int .i64 0, .int .i64 5]) ∧ w' = w := by
  have d65 : decide ((65536 : Int) < (n : Int)) = true := decide_eq_true (by omega)
  have d65' : decide (65536 < n) = true := decide_eq_true (by omega)
  go_enter Tryz.func85, Tryz.ntmps85
  go_wp2_with fail
  go_ret3
  exact ⟨rfl, rfl⟩
end Go.Proofs.YtohadkmaemmfgaaGreatDoor
