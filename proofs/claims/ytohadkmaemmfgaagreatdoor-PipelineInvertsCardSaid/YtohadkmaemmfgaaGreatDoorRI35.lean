/- Oa. -/
import Derived.Test.YtohadkmaemmfgaaGreatDoorRI56
import Derived.Test.YtohadkmaemmfgaaGreatDoorRI16
set_option maxRecDepth 100000
set_option maxHeartbeats 4000000
namespace Go.Proofs.YtohadkmaemmfgaaGreatDoor
open Go.RowKit Go.Proofs Go.Shelf
set_option linter.unusedVariables false
set_option linter.unusedSimpArgs false
structure ColI (w : World) (n wn : Nat) (bs : List UInt8) (k : Nat) (W : World) : Prop where
  row : RowB W w.heap.size n (scat (colL n wn) bs k)
  out : Boxed W (w.heap.size + 1) 23 (.slice (some ⟨w.heap.size, 0, none⟩) n n)
  left : ∃ A' c', Boxed W (w.heap.size + 2) 23 (.slice A' (n - k) c') ∧ Bytes w A' (n - k) c' (bs.drop k)
  bn : Boxed W (w.heap.size + 3) 3 (.int .i64 (n : Int))
  bw : Boxed W (w.heap.size + 4) 3 (.int .i64 (wn : Int))
  below : Below w.heap.size w W
  size : w.heap.size + 5 ≤ W.heap.size
section
variable {w W W' : World} {n wn : Nat} {bs : List UInt8} {k : Nat}
theorem ColI.kept {row : Option Nat} (h : ColI w n wn bs k W) (hg : W.grownBy W' row) (hrow : ∀ r, row = some r → w.heap.size + 5 ≤ r) : ColI w n wn bs k W' := by
  have ne : ∀ j, j < w.heap.size + 5 → some j ≠ row := fun j hj e => by have := hrow j e.symm; omega
  obtain ⟨A', c', h1, h2⟩ := h.left
  exact ⟨h.row.keep (hg.block _ (by have := h.size; omega) (ne _ (by omega))), h.out.kept hg (ne _ (by omega)), ⟨A', c', h1.kept hg (ne _ (by omega)), h2⟩, h.bn.kept hg (ne _ (by omega)), h.bw.kept hg (ne _ (by omega)), h.below.grown hg h.below.size (fun r e => by have := hrow r e; omega), Nat.le_trans h.size hg.size⟩
theorem ColI.step (h : ColI w n wn bs k W) (hw : 0 < wn) (hn : bs.length = n) (hk : k < n) {A' : Option Addr} {c' : Nat} (hc : Bytes w A' (n - (k + 1)) c' (bs.drop (k + 1))) (q : Nat) :
    KeepsFrom (w.heap.size + 5) W (((W.drewN q).setCell ⟨w.heap.size, oN (colL n wn) k, none⟩ (.int .u8 ((bA bs k).toNat : Int))).setCell ⟨w.heap.size + 2, 0, none⟩ (.slice A' (n - (k + 1)) c')) ∧
    twoKp (w.heap.size + 4) (w.heap.size + 3) W (((W.drewN q).setCell ⟨w.heap.size, oN (colL n wn) k, none⟩ (.int .u8 ((bA bs k).toNat : Int))).setCell ⟨w.heap.size + 2, 0, none⟩ (.slice A' (n - (k + 1)) c')) ∧
    ColI w n wn bs (k + 1) (((W.drewN q).setCell ⟨w.heap.size, oN (colL n wn) k, none⟩ (.int .u8 ((bA bs k).toNat : Int))).setCell ⟨w.heap.size + 2, 0, none⟩ (.slice A' (n - (k + 1)) c')) := by
  have oth : ∀ j, j ≠ w.heap.size → j ≠ w.heap.size + 2 → (((W.drewN q).setCell ⟨w.heap.size, oN (colL n wn) k, none⟩ (.int .u8 ((bA bs k).toNat : Int))).setCell ⟨w.heap.size + 2, 0, none⟩ (.slice A' (n - (k + 1)) c')).heap[j]? = W.heap[j]? := fun j h1 h2 =>
    (Below.heap_setCell _ ⟨w.heap.size + 2, 0, none⟩ _ j h2).trans (Below.heap_setCell _ ⟨w.heap.size, oN (colL n wn) k, none⟩ _ j h1)
  have hsz : (((W.drewN q).setCell ⟨w.heap.size, oN (colL n wn) k, none⟩ (.int .u8 ((bA bs k).toNat : Int))).setCell ⟨w.heap.size + 2, 0, none⟩ (.slice A' (n - (k + 1)) c')).heap.size = W.heap.size := by simp [World.setCell, World.drewN]
  have hb : Below w.heap.size W (((W.drewN q).setCell ⟨w.heap.size, oN (colL n wn) k, none⟩ (.int .u8 ((bA bs k).toNat : Int))).setCell ⟨w.heap.size + 2, 0, none⟩ (.slice A' (n - (k + 1)) c')) :=
    (((Drawn.drewN W q).below w.heap.size).setCell (p := ⟨w.heap.size, oN (colL n wn) k, none⟩) (Nat.le_refl _) _).setCell (p := ⟨w.heap.size + 2, 0, none⟩) (by show w.heap.size ≤ w.heap.size + 2; omega) _
  have ho := oN_lt hw hk
  have hr0 : RowB (W.drewN q) w.heap.size n (scat (colL n wn) bs k) := h.row.keep rfl
  have hr := (hr0.set ho (bA bs k)).keep (w' := ((W.drewN q).setCell ⟨w.heap.size, oN (colL n wn) k, none⟩ (.int .u8 ((bA bs k).toNat : Int))).setCell ⟨w.heap.size + 2, 0, none⟩ (.slice A' (n - (k + 1)) c')) (Below.heap_setCell _ ⟨w.heap.size + 2, 0, none⟩ _ _ (by show w.heap.size ≠ w.heap.size + 2; omega))
  obtain ⟨A0, c0, h1, -⟩ := h.left
  have hl : Boxed (((W.drewN q).setCell ⟨w.heap.size, oN (colL n wn) k, none⟩ (.int .u8 ((bA bs k).toNat : Int))).setCell ⟨w.heap.size + 2, 0, none⟩ (.slice A' (n - (k + 1)) c')) (w.heap.size + 2) 23 (.slice A' (n - (k + 1)) c') := by
    have h0 : rowV ((W.drewN q).setCell ⟨w.heap.size, oN (colL n wn) k, none⟩ (.int .u8 ((bA bs k).toNat : Int))) (w.heap.size + 2) 23 #[.slice A0 (n - k) c0] := (Below.heap_setCell _ ⟨w.heap.size, oN (colL n wn) k, none⟩ _ _ (by show w.heap.size + 2 ≠ w.heap.size; omega)).trans h1
    exact h0.set 0 _
  exact ⟨⟨by rw [hsz]; exact Nat.le_refl _, fun j o hj ho _ => (oth j (by omega) (by omega)).trans ho⟩, ⟨oth _ (by omega) (by omega), oth _ (by omega) (by omega)⟩, hr, (oth _ (by omega) (by omega)).trans h.out, ⟨A', c', hl, hc⟩, (oth _ (by omega) (by omega)).trans h.bn, (oth _ (by omega) (by omega)).trans h.bw, h.below.trans hb, by rw [hsz]; exact h.size⟩
end
theorem colI_start {w w5 : World} {A : Option Addr} {n c wn : Nat} {bs : List UInt8} (hx : Bytes w A n c bs)
    (hw5 : w5 = ((((w.alloc (rowObj encB 5 (List.replicate n 0))).alloc (.cells #[.slice (some ⟨w.heap.size, 0, none⟩) n n] 23)).alloc (.cells #[.slice A n c] 23)).alloc (.cells #[.int .i64 (n : Int)] 3)).alloc (.cells #[.int .i64 (wn : Int)] 3)) :
    ColI w n wn bs 0 w5 ∧ w5.heap.size = w.heap.size + 5 := by
  obtain ⟨w1, h1⟩ : ∃ w1, w1 = w.alloc (rowObj encB 5 (List.replicate n 0)) := ⟨_, rfl⟩
  obtain ⟨w2, h2⟩ : ∃ w2, w2 = w1.alloc (.cells #[.slice (some ⟨w.heap.size, 0, none⟩) n n] 23) := ⟨_, rfl⟩
  obtain ⟨w3, h3⟩ : ∃ w3, w3 = w2.alloc (.cells #[.slice A n c] 23) := ⟨_, rfl⟩
  obtain ⟨w4, h4⟩ : ∃ w4, w4 = w3.alloc (.cells #[.int .i64 (n : Int)] 3) := ⟨_, rfl⟩
  rw [← h1, ← h2, ← h3, ← h4] at hw5
  have s1 : w1.heap.size = w.heap.size + 1 := by rw [h1, World.size_alloc]
  have s2 : w2.heap.size = w.heap.size + 2 := by rw [h2, World.size_alloc, s1]
  have s3 : w3.heap.size = w.heap.size + 3 := by rw [h3, World.size_alloc, s2]
  have s4 : w4.heap.size = w.heap.size + 4 := by rw [h4, World.size_alloc, s3]
  have s5 : w5.heap.size = w.heap.size + 5 := by rw [hw5, World.size_alloc, s4]
  have g1 : Below w.heap.size w w1 := by rw [h1]; exact balloc (Below.refl _ _) _
  have g2 : Below w1.heap.size w1 w2 := by rw [h2]; exact balloc (Below.refl _ _) _
  have g3 : Below w2.heap.size w2 w3 := by rw [h3]; exact balloc (Below.refl _ _) _
  have g4 : Below w3.heap.size w3 w4 := by rw [h4]; exact balloc (Below.refl _ _) _
  have g5 : Below w4.heap.size w4 w5 := by rw [hw5]; exact balloc (Below.refl _ _) _
  have r1 : Row encB w1 w.heap.size 5 (List.replicate n 0) := by rw [h1]; exact Row.new w _ _
  have r1' : RowB w1 w.heap.size n (scat (colL n wn) bs 0) := by
    refine ⟨by rw [scat_length, hx.1], _, _, r1, by simp, fun i hi => ?_⟩
    have e : gb (scat (colL n wn) bs 0) i = 0 := by
      show (((List.replicate bs.length (0 : UInt8)).getD i 0).toNat : Int) = 0
      simp [List.getD, List.getElem?_replicate]
      split <;> rfl
    rw [e]
    simp [hi, encB]
  have r2 : rowV w2 (w.heap.size + 1) 23 #[.slice (some ⟨w.heap.size, 0, none⟩) n n] := by have := rowV.new w1 23 #[.slice (some ⟨w.heap.size, 0, none⟩) n n]; rw [s1] at this; rw [h2]; exact this
  have r3 : rowV w3 (w.heap.size + 2) 23 #[.slice A n c] := by have := rowV.new w2 23 #[.slice A n c]; rw [s2] at this; rw [h3]; exact this
  have r4 : rowV w4 (w.heap.size + 3) 3 #[.int .i64 (n : Int)] := by have := rowV.new w3 3 #[.int .i64 (n : Int)]; rw [s3] at this; rw [h4]; exact this
  have r5 : rowV w5 (w.heap.size + 4) 3 #[.int .i64 (wn : Int)] := by have := rowV.new w4 3 #[.int .i64 (wn : Int)]; rw [s4] at this; rw [hw5]; exact this
  refine ⟨⟨(((r1'.below g2 (by omega)).below g3 (by omega)).below g4 (by omega)).below g5 (by omega), ((r2.below g3 (by omega)).below g4 (by omega)).below g5 (by omega), ⟨A, c, (r3.below g4 (by omega)).below g5 (by omega), hx⟩, r4.below g5 (by omega), r5, (((g1.trans (g2.mono (by omega))).trans (g3.mono (by omega))).trans (g4.mono (by omega))).trans (g5.mono (by omega)), by omega⟩, s5⟩
def twoC (W : World) (p1 : Addr) (v1 : Value) (p2 : Addr) (v2 : Value) (listed : Array Bool) (w' : World) : Prop :=
  w' = (if listed.getD 9 false = true then (W.drew.setCell p1 v1).setCell p2 v2 else if listed.getD 8 false = true then W.drew.setCell p1 v1 else W.drew) ∧ (listed.getD 8 false = true → ∀ j, (j < 5 ∨ j = 7) → listed.getD j false = true) ∧ (listed.getD 9 false = true → ∀ j, j < 9 → listed.getD j false = true)
section
variable {W w' : World} {p1 p2 : Addr} {v1 v2 : Value} {listed : Array Bool}
theorem rep_false (n j : Nat) : (Array.replicate n false).getD j false = false := by
  rw [Array.getD_eq_getD_getElem?, Array.getElem?_replicate]
  split <;> rfl
theorem twoC.start : twoC W p1 v1 p2 v2 (Array.replicate 10 false) W.drew := by
  refine ⟨?_, fun e => ?_, fun e => ?_⟩
  · rw [rep_false, rep_false]; rfl
  · rw [rep_false] at e; cases e
  · rw [rep_false] at e; cases e
theorem twoC.off9 (h : twoC W p1 v1 p2 v2 listed w') {j : Nat} (hun : listed.getD j false = false) (hj : j < 9) : listed.getD 9 false = false := by
  cases hc : listed.getD 9 false with
  | false => rfl
  | true => have := h.2.2 hc j hj; rw [hun] at this; cases this
theorem twoC.off8 (h : twoC W p1 v1 p2 v2 listed w') {j : Nat} (hun : listed.getD j false = false) (hj : j < 5 ∨ j = 7) : listed.getD 8 false = false := by
  cases hc : listed.getD 8 false with
  | false => rfl
  | true => have := h.2.1 hc j hj; rw [hun] at this; cases this
theorem twoC.early (h : twoC W p1 v1 p2 v2 listed w') {j : Nat} (hun : listed.getD j false = false) (hj : j < 5 ∨ j = 7 ∨ j = 8) : w' = W.drew := by
  have h9 := h.off9 hun (by omega)
  have h8 : listed.getD 8 false = false := by
    rcases hj with h1 | h1 | h1
    · exact h.off8 hun (.inl h1)
    · exact h.off8 hun (.inr h1)
    · subst h1; exact hun
  have := h.1
  rw [h9, h8] at this
  exact this
theorem twoC.mid (h : twoC W p1 v1 p2 v2 listed w') {j : Nat} (hun : listed.getD j false = false) (hj : j < 9) : w' = W.drew ∨ w' = W.drew.setCell p1 v1 := by
  have h9 := h.off9 hun hj
  have := h.1
  rw [h9] at this
  cases hc : listed.getD 8 false with
  | false => rw [hc] at this; exact .inl this
  | true => rw [hc] at this; exact .inr this
theorem twoC.set (h : twoC W p1 v1 p2 v2 listed w') {i : Nat} (hi : i < 8) (hs : i < listed.size) : twoC W p1 v1 p2 v2 (listed.setIfInBounds i true) w' := by
  have e : ∀ j, listed.getD j false = true → (listed.setIfInBounds i true).getD j false = true := fun j hj => by rw [Bwt.getD_set' _ _ _ hs, hj]; split <;> rfl
  have e8 : (listed.setIfInBounds i true).getD 8 false = listed.getD 8 false := by rw [Bwt.getD_set' _ _ _ hs, if_neg (by omega)]
  have e9 : (listed.setIfInBounds i true).getD 9 false = listed.getD 9 false := by rw [Bwt.getD_set' _ _ _ hs, if_neg (by omega)]
  refine ⟨?_, ?_, ?_⟩
  · rw [e8, e9]; exact h.1
  · rw [e8]; exact fun hc j hj => e j (h.2.1 hc j hj)
  · rw [e9]; exact fun hc j hj => e j (h.2.2 hc j hj)
theorem twoC.st8 (h : twoC W p1 v1 p2 v2 listed w') (hun : listed.getD 8 false = false) (hs : 8 < listed.size) (hd : ∀ j, (j < 5 ∨ j = 7) → listed.getD j false = true) : twoC W p1 v1 p2 v2 (listed.setIfInBounds 8 true) (W.drew.setCell p1 v1) := by
  have h9 := h.off9 hun (by omega)
  have e9 : (listed.setIfInBounds 8 true).getD 9 false = false := by rw [Bwt.getD_set' _ _ _ hs, if_neg (by omega)]; exact h9
  have e8 : (listed.setIfInBounds 8 true).getD 8 false = true := by rw [Bwt.getD_set' _ _ _ hs, if_pos rfl]
  refine ⟨by rw [e9, e8]; rfl, fun _ j hj => ?_, fun e => ?_⟩
  · rw [Bwt.getD_set' _ _ _ hs, hd j hj]; split <;> rfl
  · rw [e9] at e; cases e
theorem twoC.st9 (hs : 9 < listed.size) (hd : ∀ j, j < 9 → listed.getD j false = true) : twoC W p1 v1 p2 v2 (listed.setIfInBounds 9 true) ((W.drew.setCell p1 v1).setCell p2 v2) := by
  have e9 : (listed.setIfInBounds 9 true).getD 9 false = true := by rw [Bwt.getD_set' _ _ _ hs, if_pos rfl]
  refine ⟨by rw [e9]; rfl, fun _ j hj => ?_, fun _ j hj => ?_⟩
  · rw [Bwt.getD_set' _ _ _ hs, if_neg (by omega)]; exact hd j (by omega)
  · rw [Bwt.getD_set' _ _ _ hs, if_neg (by omega)]; exact hd j hj
end
def coiV (B : Nat) (io n m c' : Nat) (b off : Nat) (yv : Int) (A2 : Option Addr) (m2 c2 : Nat) : Nat → Value
  | 0 => .slice (some ⟨B, 0, none⟩) n n
  | 1 => .int .i64 (io : Int)
  | 2 => .slice (some ⟨b, off, none⟩) m c'
  | 3 => .pointer (some ⟨b, off, none⟩)
  | 4 => .int .u8 yv
  | 5 => .slice (some ⟨b, off, none⟩) m c'
  | 6 => .slice A2 m2 c2
  | _ => .pointer (some ⟨B, io, none⟩)
theorem columnsI_any (A : Option Addr) (n c : Nat) (wd : Int) (bs : List UInt8) (w : World) (hx : Bytes w A n c bs) (hn : n ≤ 1000000) :
    Calls Tryz.prog 31 #[.slice A n c, .int .i64 wd] w (RetBytes w (if limD n wd = 0 then columnsI wd.toNat bs else []) (limD n wd)) := by
  have H1 := Lib.hid (fun W => climits_any n wd W)
  have Hn := Lib.hid hx.1
  by_cases h0 : limD n wd = 0
  · rw [if_pos h0]
    rw [h0] at H1 ⊢
    obtain ⟨wn, rfl⟩ : ∃ wn : Nat, wd = (wn : Int) := ⟨wd.toNat, by unfold limD at h0; split at h0; (cases h0); split at h0; (cases h0); omega⟩
    have hw : 1 ≤ wn ∧ wn ≤ 64 := by unfold limD at h0; split at h0; (cases h0); split at h0; (cases h0); omega
    have hn6 : n ≤ 65536 := by unfold limD at h0; split at h0; (cases h0); omega
    rw [Int.toNat_natCast]
    clear h0
    have HLl := Lib.hid (colL_length (n := n) hw.1)
    have hmk := run_make_row (P := Tryz.prog) (enc := encB) uB infoB rfl (n : Int) (by omega) (by omega) (by omega)
    obtain ⟨w3, hw3⟩ : ∃ w3, w3 = ((w.alloc (rowObj encB 5 (List.replicate n 0))).alloc (.cells #[.slice (some ⟨w.heap.size, 0, none⟩) n n] 23)).alloc (.cells #[.slice A n c] 23) := ⟨_, rfl⟩
    have s3 : w3.heap.size = w.heap.size + 3 := by rw [hw3, World.size_alloc, World.size_alloc, World.size_alloc]
    obtain ⟨w5, hw5⟩ : ∃ w5, w5 = (w3.alloc (.cells #[.int .i64 (n : Int)] 3)).alloc (.cells #[.int .i64 (wn : Int)] 3) := ⟨_, rfl⟩
    have HO := order_any n wn w3
    rw [← hw5, s3] at HO
    obtain ⟨hI0, hs5⟩ := colI_start (w := w) (w5 := w5) (A := A) (n := n) (c := c) (wn := wn) hx (by rw [hw5, hw3])
    have HO := Lib.hid HO
    have HW3 := Lib.hid hw3
    have HS3 := Lib.hid s3
    have Hs5 := Lib.hid hs5
    have HI0 := Lib.hid hI0
    have HX := Lib.hid hx
    clear hw3 s3 hw5 hI0 hs5 hx
    refine calls_of_marks Tryz.func31 rfl ?_
    simp only [Tryz.ntmps31, List.size_toArray, List.length_cons, List.length_nil, Nat.reduceAdd, Nat.reduceSub, Array.replicate_succ, Array.replicate_zero, List.push_toArray, List.append_toArray, List.nil_append, List.cons_append]
    go_wp2_with fail
    refine (H1.out _).mono ?_
    rintro e wq ⟨rfl, hq⟩
    obtain rfl := hq.symm
    go_wp2_with fail
    rw [← HW3.out]
    refine HO.out.mono ?_
    rintro e wq ⟨rfl, hq⟩
    obtain rfl := hq.symm
    clear HO H1 hmk
    go_wp2_with fail
    refine wp_rangeFunc_one (G := fun u t => (t.setIfInBounds 25 u).setIfInBounds 9 u) (u := fun k => .int .i64 ((oN (colL n wn) k : Nat) : Int)) rfl (Go.Proofs.enters_of Tryz.func131 (by kernel_rfl) rfl) (order1_gives n wn hn hw.1 hw.2 (w.heap.size + 4) (w.heap.size + 3))
      (fun o1 o2 => ⟨Boxed.alloc (Boxed.alloc HI0.out.bw _) _, Boxed.alloc (Boxed.alloc HI0.out.bn _) _⟩)
      (fun X Y hab => by subst hab; exact KeepsFrom.refl _ _)
      (fun h1 h2 => ⟨h2.1.trans h1.1, h2.2.trans h1.2⟩)
      (fun W l o o' hl hlo ho => ⟨World.putObj_heap_other (by rw [Hs5.out] at hl; omega), World.putObj_heap_other (by rw [Hs5.out] at hl; omega)⟩)
      (fun k => ColI w n wn bs k) (fun _ _ _ => False) ?hI (fun _ _ _ _ _ h _ _ => h.elim) (fun k X Y h hab => by subst hab; exact h) (fun _ _ _ _ h _ => h.elim) HI0.out ?assign ?body ?done (fun _ _ _ _ _ _ h _ => h.elim)
    case hI => exact fun s W W' row h hg hr => h.kept hg (fun r e => by have := (hr r e).1; rw [Hs5.out] at this; exact this)
    case assign =>
      intro l k W K hK
      simp only [List.setIfInBounds_toArray, List.set_cons_succ, List.set_cons_zero] at hK ⊢
      gi_wp2
      exact hK
    case done =>
      intro D W hD hI hdef
      rw [Hs5.out] at hD
      have q1 := hI.out.cell
      have hR : Hid (scat (colL n wn) bs (colL n wn).length = columnsI wn bs) := by show _ = _; unfold columnsI; rw [HLl.out, Hn.out]
      have HI := Lib.hid hI
      clear hI
      go_wp2_with fail
      refine markPost_mark hdef (v := .tuple #[.slice (some ⟨w.heap.size, 0, none⟩) n n, .int .i64 0]) (fun W => by simp [results, Tryz.results31, go_sem]) rfl ?_
      have hr := HI.out.row
      rw [hR.out] at hr
      refine RetBytes.mk rfl ((hr.keep ?_).bytes (Nat.le_refl _)) (HI.out.below.grown (grownBy_putObj' W D _) HI.out.below.size (fun k e => by cases e; omega))
      exact World.putObj_heap_other (by omega)
    case body =>
      intro l k W hk hl hI
      rw [HLl.out] at hk
      obtain ⟨A', c', hbx, hby⟩ := hI.left
      obtain ⟨A2, hcut, hby2⟩ := hby.cut_l tB eB sB 1 (by decide) (by omega)
      have e1 : (1 : Int).toNat = 1 := rfl
      rw [e1] at hcut hby2
      have e2 : n - k - 1 = n - (k + 1) := by omega
      have e3 : (bs.drop k).drop 1 = bs.drop (k + 1) := by rw [List.drop_drop]
      rw [e2] at hcut hby2
      rw [e3] at hby2
      have hstep : Hid _ := Lib.hid (fun q => hI.step hw.1 Hn.out hk hby2 q)
      simp only [List.setIfInBounds_toArray, List.set_cons_succ, List.set_cons_zero]
      have hon : oN (colL n wn) k < n := oN_lt hw.1 hk
      have c0 := hI.out.cell
      have c1 : W.cell? ⟨w.heap.size + 1 + 1, 0, none⟩ = some (.slice A' (n - k) c') := hbx.cell
      have f1 := hI.row.frozen (oN (colL n wn) k)
      have f2 : W.frozen? ⟨w.heap.size + 1 + 1, 0, none⟩ = false := hbx.frozen
      have c3 := hI.row.cell hon
      have cS : Hid ((W.drew.setCell ⟨w.heap.size, oN (colL n wn) k, none⟩ (.int .u8 ((bA bs k).toNat : Int))).cell? ⟨w.heap.size + 1 + 1, 0, none⟩ = some (.slice A' (n - k) c')) := by
        have h0 : rowV (W.drew.setCell ⟨w.heap.size, oN (colL n wn) k, none⟩ (.int .u8 ((bA bs k).toNat : Int))) (w.heap.size + 2) 23 #[.slice A' (n - k) c'] := (Below.heap_setCell _ ⟨w.heap.size, oN (colL n wn) k, none⟩ _ _ (by show w.heap.size + 2 ≠ w.heap.size; omega)).trans hbx
        exact h0.cell rfl
      have fS : Hid ((W.drew.setCell ⟨w.heap.size, oN (colL n wn) k, none⟩ (.int .u8 ((bA bs k).toNat : Int))).frozen? ⟨w.heap.size + 1 + 1, 0, none⟩ = false) := by
        have h0 : rowV (W.drew.setCell ⟨w.heap.size, oN (colL n wn) k, none⟩ (.int .u8 ((bA bs k).toNat : Int))) (w.heap.size + 2) 23 #[.slice A' (n - k) c'] := (Below.heap_setCell _ ⟨w.heap.size, oN (colL n wn) k, none⟩ _ _ (by show w.heap.size + 2 ≠ w.heap.size; omega)).trans hbx
        exact h0.frozen 0
      obtain ⟨b, off, rfl, hbl, hcell⟩ := hby.2.2 (by omega)
      have c2 : W.cell? ⟨b, off, none⟩ = some (.int .u8 ((bA bs k).toNat : Int)) := by
        have h := (hI.below.cell (p := ⟨b, off + 0, none⟩) hbl).trans (hcell 0 (by omega))
        rw [Nat.add_zero] at h
        rw [h]
        show some (Value.int .u8 (((bs.drop k).getD 0 0).toNat : Int)) = _
        simp [List.getD, bA]
      obtain ⟨io, hio⟩ : ∃ io, io = oN (colL n wn) k := ⟨_, rfl⟩
      obtain ⟨yv, hyv⟩ : ∃ yv, yv = ((bA bs k).toNat : Int) := ⟨_, rfl⟩
      rw [← hio] at hstep hon f1 c3 cS fS ⊢
      rw [← hyv] at hstep c2 cS fS
      clear hio hyv hbx hby hI hcell hby2 e1 e2 e3
      have hnk : 0 < n - k := by omega
      gi_wp2
      refine Bwt.wpIn_region_inv (Bwt.SlotInv 35 26 8 [(7, .pointer (some ⟨w.heap.size + 1, 0, none⟩)), (8, .pointer (some ⟨w.heap.size + 1 + 1, 0, none⟩)), (9, .int .i64 (io : Int))] (coiV w.heap.size io n (n - k) c' b off yv A2 (n - (k + 1)) (c' - 1)) (twoC W ⟨w.heap.size, io, none⟩ (.int .u8 yv) ⟨w.heap.size + 2, 0, none⟩ (.slice A2 (n - (k + 1)) (c' - 1)))) (by kernel_rfl) (by kernel_rfl) (by kernel_rfl) ?start ?step ?last
      case start =>
        refine ⟨rfl, ?_, fun j _ h => ?_, twoC.start⟩
        · intro x hx
          simp only [List.mem_cons, List.not_mem_nil, or_false] at hx
          rcases hx with rfl | rfl | rfl <;> rfl
        · exact absurd ((rep_false _ j).symm.trans h) (by decide)
      case last =>
        intro listed a w' hall hJ
        have hw' := hJ.world.1
        rw [hall 9 (by decide), if_pos rfl] at hw'
        subst hw'
        gi_wp2
        rw [Hs5.out]
        exact hstep.out 1
      case step =>
        intro i o listed a w' ho hun hd hsz hJ
        have hsz' : listed.size = 10 := hsz
        have hi10 : i < 10 := (List.getElem?_eq_some_iff.1 ho).1
        have b7 : a.eval (.tmp 7) = .pointer (some ⟨w.heap.size + 1, 0, none⟩) := hJ.base (7, _) (by simp)
        have b8 : a.eval (.tmp 8) = .pointer (some ⟨w.heap.size + 1 + 1, 0, none⟩) := hJ.base (8, _) (by simp)
        have b9 : a.eval (.tmp 9) = .int .i64 (io : Int) := hJ.base (9, _) (by simp)
        have put := fun (i : Nat) (hi : i < 8) (w'' : World) (hC : twoC W ⟨w.heap.size, io, none⟩ (.int .u8 yv) ⟨w.heap.size + 2, 0, none⟩ (.slice A2 (n - (k + 1)) (c' - 1)) (listed.setIfInBounds i true) w'') => hJ.put hi (by decide) (by intro x hx; simp only [List.mem_cons, List.not_mem_nil, or_false] at hx; rcases hx with rfl | rfl | rfl <;> simp) (by omega : i < listed.size) hC
        simp only [Act.eval, Array.getD_eq_getD_getElem?] at b7 b8 b9
        match i, hi10 with
        | 0, _ =>
          injection (show some _ = some o from ho) with ho'
          subst ho'
          have hw' := hJ.world.early (j := 0) hun (by decide)
          refine ⟨by simp [Region.wanted], Bwt.wp_value (v := coiV w.heap.size io n (n - k) c' b off yv A2 (n - (k + 1)) (c' - 1) 0) ?_ (put 0 (by omega) _ (hJ.world.set (by decide) (by omega)))⟩
          simp [go_sem, coiV, b7, hw', c0]
        | 1, _ =>
          injection (show some _ = some o from ho) with ho'
          subst ho'
          refine ⟨by simp [Region.wanted], Bwt.wp_value (v := coiV w.heap.size io n (n - k) c' b off yv A2 (n - (k + 1)) (c' - 1) 1) ?_ (put 1 (by omega) _ (hJ.world.set (by decide) (by omega)))⟩
          simp [go_sem, coiV, b9]
        | 2, _ =>
          injection (show some _ = some o from ho) with ho'
          subst ho'
          have hw' := hJ.world.early (j := 2) hun (by decide)
          refine ⟨by simp [Region.wanted], Bwt.wp_value (v := coiV w.heap.size io n (n - k) c' b off yv A2 (n - (k + 1)) (c' - 1) 2) ?_ (put 2 (by omega) _ (hJ.world.set (by decide) (by omega)))⟩
          simp [go_sem, coiV, b8, hw', c1]
        | 3, _ =>
          injection (show some _ = some o from ho) with ho'
          subst ho'
          have e2 := hJ.got 2 (by omega) (hd ⟨2, .data⟩ (by simp) rfl)
          simp only [coiV, Act.eval, Array.getD_eq_getD_getElem?] at e2
          refine ⟨by simp [Region.wanted], Bwt.wp_value (v := coiV w.heap.size io n (n - k) c' b off yv A2 (n - (k + 1)) (c' - 1) 3) ?_ (put 3 (by omega) _ (hJ.world.set (by decide) (by omega)))⟩
          simp [go_sem, coiV, e2, hnk]
        | 4, _ =>
          injection (show some _ = some o from ho) with ho'
          subst ho'
          have e3 := hJ.got 3 (by omega) (hd ⟨3, .data⟩ (by simp) rfl)
          simp only [coiV, Act.eval, Array.getD_eq_getD_getElem?] at e3
          have hw' := hJ.world.early (j := 4) hun (by decide)
          refine ⟨by simp [Region.wanted], Bwt.wp_value (v := coiV w.heap.size io n (n - k) c' b off yv A2 (n - (k + 1)) (c' - 1) 4) ?_ (put 4 (by omega) _ (hJ.world.set (by decide) (by omega)))⟩
          simp [go_sem, coiV, e3, hw', c2]
        | 5, _ =>
          injection (show some _ = some o from ho) with ho'
          subst ho'
          refine ⟨by simp [Region.wanted], Bwt.wp_value (v := coiV w.heap.size io n (n - k) c' b off yv A2 (n - (k + 1)) (c' - 1) 5) ?_ (put 5 (by omega) _ (hJ.world.set (by decide) (by omega)))⟩
          have hm5 : w'.cell? ⟨w.heap.size + 1 + 1, 0, none⟩ = some (.slice (some ⟨b, off, none⟩) (n - k) c') := by
            rcases hJ.world.mid (j := 5) hun (by decide) with h | h
            · rw [h]; exact c1
            · rw [h]; exact cS.out
          simp [go_sem, coiV, b8, hm5]
        | 6, _ =>
          injection (show some _ = some o from ho) with ho'
          subst ho'
          have e5 := hJ.got 5 (by omega) (hd ⟨5, .data⟩ (by simp) rfl)
          simp only [coiV, Act.eval, Array.getD_eq_getD_getElem?] at e5
          refine ⟨by simp [Region.wanted], Bwt.wp_value (v := coiV w.heap.size io n (n - k) c' b off yv A2 (n - (k + 1)) (c' - 1) 6) ?_ (put 6 (by omega) _ (hJ.world.set (by decide) (by omega)))⟩
          simp [go_sem, coiV, e5, hcut]
        | 7, _ =>
          injection (show some _ = some o from ho) with ho'
          subst ho'
          have e0 := hJ.got 0 (by omega) (hd ⟨0, .data⟩ (by simp) rfl)
          have e1 := hJ.got 1 (by omega) (hd ⟨1, .data⟩ (by simp) rfl)
          simp only [coiV, Act.eval, Array.getD_eq_getD_getElem?] at e0 e1
          refine ⟨by simp [Region.wanted], Bwt.wp_value (v := coiV w.heap.size io n (n - k) c' b off yv A2 (n - (k + 1)) (c' - 1) 7) ?_ (put 7 (by omega) _ (hJ.world.set (by decide) (by omega)))⟩
          simp [go_sem, coiV, e0, e1, hon]
        | 8, _ =>
          injection (show some _ = some o from ho) with ho'
          subst ho'
          have e7 := hJ.got 7 (by omega) (hd ⟨7, .data⟩ (by simp) rfl)
          have e4 := hJ.got 4 (by omega) (hd ⟨4, .data⟩ (by simp) rfl)
          simp only [coiV, Act.eval, Array.getD_eq_getD_getElem?] at e7 e4
          have hw' := hJ.world.early (j := 8) hun (by decide)
          refine ⟨by simp [Region.wanted], Bwt.wp_store (w' := W.drew.setCell ⟨w.heap.size, io, none⟩ (.int .u8 yv)) ?_ (hJ.none (by decide) (by omega) (hJ.world.st8 hun (by omega) (fun j hj => ?_)))⟩
          · simp [go_sem, e7, e4, hw', c3, f1]
          · rcases hj with h1 | h1
            · match j, h1 with
              | 0, _ => exact hd ⟨0, .phase⟩ (by simp) rfl
              | 1, _ => exact hd ⟨1, .phase⟩ (by simp) rfl
              | 2, _ => exact hd ⟨2, .phase⟩ (by simp) rfl
              | 3, _ => exact hd ⟨3, .phase⟩ (by simp) rfl
              | 4, _ => exact hd ⟨4, .phase⟩ (by simp) rfl
            · subst h1; exact hd ⟨7, .data⟩ (by simp) rfl
        | 9, _ =>
          injection (show some _ = some o from ho) with ho'
          subst ho'
          have l8 := hd ⟨8, .chain⟩ (by simp) rfl
          have l6 := hd ⟨6, .data⟩ (by simp) rfl
          have e6 := hJ.got 6 (by omega) l6
          simp only [coiV, Act.eval, Array.getD_eq_getD_getElem?] at e6
          have hw' := hJ.world.1
          rw [hun, l8] at hw'
          simp only [Bool.false_eq_true, if_false, if_true] at hw'
          have cs1 := cS.out
          have fs1 := fS.out
          refine ⟨by simp [Region.wanted], Bwt.wp_store (w' := (W.drew.setCell ⟨w.heap.size, io, none⟩ (.int .u8 yv)).setCell ⟨w.heap.size + 2, 0, none⟩ (.slice A2 (n - (k + 1)) (c' - 1))) ?_ (hJ.none (by decide) (by omega) (twoC.st9 (by omega) (fun j hj => ?_)))⟩
          · simp [go_sem, e6, b8, hw', c1, f2]
          · match j, hj with
            | 0, _ => exact hd ⟨0, .phase⟩ (by simp) rfl
            | 1, _ => exact hd ⟨1, .phase⟩ (by simp) rfl
            | 2, _ => exact hd ⟨2, .phase⟩ (by simp) rfl
            | 3, _ => exact hd ⟨3, .phase⟩ (by simp) rfl
            | 4, _ => exact hd ⟨4, .phase⟩ (by simp) rfl
            | 5, _ => exact hd ⟨5, .phase⟩ (by simp) rfl
            | 6, _ => exact l6
            | 7, _ => exact hJ.world.2.1 l8 7 (.inr rfl)
            | 8, _ => exact l8
  · rw [if_neg h0]
    have q0 : (limD n wd == 0) = false := by simpa using h0
    obtain ⟨ld, hld⟩ : ∃ ld, ld = limD n wd := ⟨_, rfl⟩
    rw [← hld] at H1 q0 ⊢
    clear hx hld h0
    refine calls_of_marks Tryz.func31 rfl ?_
    simp only [Tryz.ntmps31, List.size_toArray, List.length_cons, List.length_nil, Nat.reduceAdd, Nat.reduceSub, Array.replicate_succ, Array.replicate_zero, List.push_toArray, List.append_toArray, List.nil_append, List.cons_append]
    go_wp2_with fail
    refine (H1.out _).mono ?_
    rintro e wq ⟨rfl, hq⟩
    obtain rfl := hq.symm
    go_wp2_with fail
    refine markPost_ret (v := .tuple #[.slice none 0 0, .int .i64 ld]) (fun W => by simp [results, Tryz.results31, go_sem]) rfl ?_
    exact RetBytes.err rfl (Below.refl _ _)
end Go.Proofs.YtohadkmaemmfgaaGreatDoor
