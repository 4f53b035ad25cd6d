/- Np Nq Ns Oa. -/
import Derived.Test.YtohadkmaemmfgaaGreatDoorRA24
import Derived.Test.YtohadkmaemmfgaaGreatDoorRA27
import Derived.Test.YtohadkmaemmfgaaGreatDoorRA25
import Derived.Test.YtohadkmaemmfgaaGreatDoorRA36
import Derived.Test.YtohadkmaemmfgaaGreatDoorRA34
import Derived.Test.YtohadkmaemmfgaaGreatDoorRA03
import Derived.Test.YtohadkmaemmfgaaGreatDoorRA10
import Derived.Test.YtohadkmaemmfgaaGreatDoorRA17
set_option maxRecDepth 100000
set_option maxHeartbeats 4000000
namespace Go.Proofs.YtohadkmaemmfgaaGreatDoor
open Go.RowKit Go.Proofs
set_option linter.unusedVariables false
set_option linter.unusedSimpArgs false
def trF : Trf := fun k wd bs =>
  if k = 4 then (if 65536 < bs.length then [] else callsP 1 bs, if 65536 < bs.length then 5 else 0)
  else if k = 5 then ((Dic.forwardQ bs).1, ((Dic.forwardQ bs).2 : Int))
  else if k = 6 then lzF bs
  else if k = 7 then ((Bwt.packQ bs).1, ((Bwt.packQ bs).2 : Int))
  else if k = 8 then (if 65536 < bs.length then [] else recF lst0 bs, if 65536 < bs.length then 5 else 0)
  else if k = 9 then runsP bs
  else trA k wd bs
theorem runsP_length {bs : List UInt8} : (runsP bs).1.length ≤ 65536 := by
  unfold runsP
  split
  · exact Nat.zero_le _
  · split
    · exact Nat.zero_le _
    · rename_i h; show (runsL bs).length ≤ _; omega
theorem trF_len : FLen trF := fun k wd bs hb h => by
  unfold trF at h ⊢
  split at h
  · rename_i e; rw [if_pos e]; show (if 65536 < bs.length then [] else callsP 1 bs).length ≤ _; rw [if_neg (by omega), callsP_length]; exact hb
  rename_i e4; rw [if_neg e4]
  split at h
  · rename_i e; rw [if_pos e]; exact Dic.forwardQ_length bs
  rename_i e5; rw [if_neg e5]
  split at h
  · rename_i e; rw [if_pos e]; exact lzF_length
  rename_i e6; rw [if_neg e6]
  split at h
  · rename_i e; rw [if_pos e]; exact Bwt.packQ_length bs
  rename_i e7; rw [if_neg e7]
  split at h
  · rename_i e; rw [if_pos e]; show (if 65536 < bs.length then [] else recF lst0 bs).length ≤ _; rw [if_neg (by omega), recF_length]; exact hb
  rename_i e8; rw [if_neg e8]
  split at h
  · rename_i e; rw [if_pos e]; exact runsP_length
  rename_i e9; rw [if_neg e9]
  unfold trA at h ⊢
  split at h
  · rename_i e; rw [if_pos e]
    have h0 : limD bs.length wd = 0 := h
    show (if limD bs.length wd = 0 then deltaF wd.toNat bs else []).length ≤ _
    rw [if_pos h0, deltaF_length]; exact hb
  rename_i e1; rw [if_neg e1]
  split at h
  · rename_i e; rw [if_pos e]
    have h0 : limD bs.length wd = 0 := h
    have h1 := limD_ok h0
    show (if limD bs.length wd = 0 then columnsF wd.toNat bs else []).length ≤ _
    rw [if_pos h0, columnsF_length (by omega)]; exact hb
  rename_i e2; rw [if_neg e2]
  exact hb
theorem fwAll (T : World → Prop) : ∀ k, k < 10 → FwC T trF 3 k := by
  intro k hk
  match k, hk with
  | 0, _ => exact (fw0 T).congr fun wd bs => rfl
  | 1, _ => exact (fw1 T).congr fun wd bs => rfl
  | 2, _ => exact (fw2 T).congr fun wd bs => rfl
  | 3, _ => exact (fw3 T).congr fun wd bs => rfl
  | 4, _ =>
    refine fwPlain (i := 0) (g := 33) (by decide) (fun f => rfl) rfl (enters_of Tryz.func33 (by kernel_rfl) rfl) fun w A n c bs wd _ hx hn => ⟨?_, fun h0 => ?_⟩
    · have h := callsF_any A n c bs w hx (by unfold LIM at hn; omega)
      rw [← hx.1] at h ⊢
      exact h
    · show (if 65536 < bs.length then [] else callsP 1 bs).length ≤ LIM
      split
      · exact Nat.zero_le _
      · rw [callsP_length, hx.1]; exact hn
  | 5, _ =>
    refine fwPlain (i := 2) (g := 35) (by decide) (fun f => rfl) rfl (enters_of Tryz.func35 (by kernel_rfl) rfl) fun w A n c bs wd _ hx hn => ⟨?_, fun h0 => ?_⟩
    · exact (Dic.forwardQ_any A c n bs w hx (by unfold LIM at hn; omega)).mono fun e w' h => h
    · exact Nat.le_trans (Dic.forwardQ_length bs) (by unfold LIM; omega)
  | 6, _ =>
    refine fwPlain (i := 4) (g := 37) (by decide) (fun f => rfl) rfl (enters_of Tryz.func37 (by kernel_rfl) rfl) fun w A n c bs wd _ hx hn => ⟨?_, fun h0 => ?_⟩
    · exact lzF_any A n c bs w hx (by unfold LIM at hn; omega)
    · exact Nat.le_trans lzF_length (by unfold LIM; omega)
  | 7, _ =>
    refine fwPlain (i := 6) (g := 39) (by decide) (fun f => rfl) rfl (enters_of Tryz.func39 (by kernel_rfl) rfl) fun w A n c bs wd _ hx hn => ⟨?_, fun h0 => ?_⟩
    · exact (Bwt.packQ_any A n c bs w hx (by unfold LIM at hn; omega)).mono fun e w' h => h
    · exact Nat.le_trans (Bwt.packQ_length bs) (by unfold LIM; omega)
  | 8, _ =>
    refine fwPlain (i := 8) (g := 41) (by decide) (fun f => rfl) rfl (enters_of Tryz.func41 (by kernel_rfl) rfl) fun w A n c bs wd _ hx hn => ⟨?_, fun h0 => ?_⟩
    · have h := recF_any A n c bs w hx (by unfold LIM at hn; omega)
      rw [← hx.1] at h ⊢
      exact h
    · show (if 65536 < bs.length then [] else recF lst0 bs).length ≤ LIM
      split
      · exact Nat.zero_le _
      · rw [recF_length, hx.1]; exact hn
  | 9, _ =>
    refine fwPlain (i := 10) (g := 43) (by decide) (fun f => rfl) rfl (enters_of Tryz.func43 (by kernel_rfl) rfl) fun w A n c bs wd _ hx hn => ⟨?_, fun h0 => ?_⟩
    · exact runsF_any A n c bs w hx (by unfold LIM at hn; omega)
    · exact Nat.le_trans runsP_length (by unfold LIM; omega)
theorem forwardAll_any (A : Option Addr) (n c : Nat) (l : List Stg) (A' : Option Addr) (n' c' : Nat) (bs : List UInt8) (w : World) (hx : Stgs w A n c l) (hn : n ≤ 1000000000000) (hy : Bytes w A' n' c' bs) (hn' : n' ≤ 1000000) :
    Calls Tryz.prog 7 #[.slice A n c, .slice A' n' c'] w (RetBytes w (fwP trF l bs).1 (fwP trF l bs).2) :=
  forward_any (fun _ => True) (fun _ _ _ _ => trivial) trF A n c l A' n' c' bs w hx hn hy hn' trivial fun h s hs => by
    obtain ⟨h0, h1, -, -⟩ := (typE_ok h).2.2.2 s hs
    exact fwAll _ _ (by omega)
def cntD (l : List Stg) : Nat := (l.filter fun s => s.1 == 5).length
def calmB (l : List Stg) : Bool := decide (cntD l ≤ 2)
theorem cntD_le (l : List Stg) : cntD l ≤ l.length := List.length_filter_le _ _
theorem cntD_next {l : List Stg} {k : Nat} (h : k < l.length) : cntD (l.take (k + 1)) = cntD (l.take k) + if (sG l k).1 = 5 then 1 else 0 := by
  have e : l[k]? = some (sG l k) := by unfold sG; rw [List.getD_eq_getElem?_getD, List.getElem?_eq_getElem h]; rfl
  unfold cntD
  rw [List.take_add_one, e]
  simp only [Option.toList_some, List.filter_append, List.length_append]
  congr 1
  by_cases h5 : (sG l k).1 = 5
  · rw [if_pos h5]; simp [h5]
  · rw [if_neg h5]; simp [h5]
theorem calm_any (A : Option Addr) (n c : Nat) (l : List Stg) (w : World) (hx : Stgs w A n c l) (hn : n ≤ maxLen) :
    Calls Tryz.prog 11 #[.slice A n c] w fun e w' => e = .returned (.bool (calmB l)) ∧ w' = w := by
  have hl := hx.1
  have hn' : n ≤ 9223372036854775807 := hn
  have HX := Lib.hid hx
  have HL := Lib.hid hl
  have HN : Hid (∀ k, k < n → cntD (l.take (k + 1)) = cntD (l.take k) + if (sG l k).1 = 5 then 1 else 0) := fun k hk => cntD_next (by omega)
  have HC : Hid (calmB l = decide (((cntD (l.take n) : Nat) : Int) ≤ 2)) := by
    unfold Hid calmB
    rw [← hl, List.take_length]
    simp only [decide_eq_decide]
    omega
  obtain ⟨f, hf⟩ : ∃ f : Nat → Nat, f = fun k => cntD (l.take k) := ⟨_, rfl⟩
  have hf0 : f 0 = 0 := by rw [hf]; rfl
  have HF : Hid (∀ k, cntD (l.take k) = f k) := fun k => by rw [hf]
  have hfl : ∀ k, k ≤ n → f k ≤ k := fun k hk => by
    rw [hf]
    have := cntD_le (l.take k)
    rw [List.length_take] at this
    exact Nat.le_trans this (Nat.min_le_left _ _)
  have HFL := Lib.hid hfl
  rw [HC.out, HF.out]
  clear hx hl hn hf hfl
  go_enter Tryz.func11, Tryz.ntmps11
  go_wp2_with fail
  go_loop [3, 4] (fun q i => ∃ k : Nat, k ≤ n ∧ i = .int .i64 (k : Int) ∧ q = .int .i64 ((f k : Nat) : Int)) (fun _ i => n - (intOf i).toNat)
  case atStart => exact ⟨0, Nat.zero_le _, rfl, by rw [hf0]; rfl⟩
  case round =>
    obtain ⟨k, hk, rfl, rfl⟩ := hrel
    have hfk := HFL.out k hk
    by_cases hlt : k < n
    · have d0 : decide ((k : Int) < (n : Int)) = true := decide_eq_true (by omega)
      have d0' : decide (k < n) = true := decide_eq_true hlt
      obtain ⟨b1, o1, rfl, -, c1, c2⟩ := HX.out.cell hlt
      have hnx := HN.out k hlt
      rw [HF.out, HF.out] at hnx
      have hcap := HX.out.2.1
      obtain ⟨u, hu⟩ : ∃ u, u = (sG l k).1 := ⟨_, rfl⟩
      rw [← hu] at c1 hnx
      obtain ⟨g, hg⟩ : ∃ g, g = f (k + 1) := ⟨_, rfl⟩
      rw [← hg] at hnx
      obtain ⟨g0, hg0⟩ : ∃ g0, g0 = f k := ⟨_, rfl⟩
      rw [← hg0] at hnx hfk
      rw [← hg0]
      have HG := Lib.hid hg
      clear hu hg hg0 c2
      by_cases h5 : u = 5
      · have q0 : (u == 5) = true := by simp [h5]
        rw [if_pos h5] at hnx
        clear h5
        go_wp2_with fail
        go_round
        case rel => exact ⟨k + 1, by omega, by go_num, by rw [← HG.out, hnx]; go_num⟩
        case measure => (simp [intOf]) <;> omega
      · have q0 : (u == 5) = false := by simp [h5]
        rw [if_neg h5] at hnx
        clear h5
        go_wp2_with fail
        go_round
        case rel => exact ⟨k + 1, by omega, by go_num, by rw [← HG.out, hnx]; rfl⟩
        case measure => (simp [intOf]) <;> omega
    · obtain rfl : k = n := by omega
      have d0 : decide ((k : Int) < (k : Int)) = false := decide_eq_false (by omega)
      have d0' : decide (k < k) = false := decide_eq_false (by omega)
      go_wp2_with fail
      go_ret
      exact ⟨rfl, rfl⟩
def fewB (l : List Stg) (n : Nat) : Bool := decide (l.length ≤ 20) && (decide (n ≤ 200) && calmB l)
theorem few_any (A : Option Addr) (n c : Nat) (l : List Stg) (A' : Option Addr) (n' c' : Nat) (w : World) (hx : Stgs w A n c l) :
    Calls Tryz.prog 5 #[.slice A n c, .slice A' n' c'] w fun e w' => e = .returned (.bool (fewB l n')) ∧ w' = w := by
  have hl := hx.1
  unfold fewB
  rw [hl]
  by_cases h1 : n ≤ 20
  · have d1 : decide ((n : Int) ≤ 20) = true := decide_eq_true (by omega)
    have d1' : decide (n ≤ 20) = true := decide_eq_true h1
    by_cases h2 : n' ≤ 200
    · have d2 : decide ((n' : Int) ≤ 200) = true := decide_eq_true (by omega)
      have d2' : decide (n' ≤ 200) = true := decide_eq_true h2
      have HC := Lib.hid (calm_any A n c l w hx (by unfold maxLen; omega))
      obtain ⟨q, hq⟩ : ∃ q, q = calmB l := ⟨_, rfl⟩
      rw [← hq] at HC ⊢
      clear hq hl hx h1 h2
      rw [d1', d2']
      go_enter Tryz.func5, Tryz.ntmps5
      go_wp2_with fail
      refine HC.out.mono ?_
      rintro e w1 ⟨rfl, hw⟩
      obtain rfl : w = w1 := hw.symm
      go_wp2_with fail
      go_ret
      exact ⟨rfl, rfl⟩
    · have d2 : decide ((n' : Int) ≤ 200) = false := decide_eq_false (by omega)
      have d2' : decide (n' ≤ 200) = false := decide_eq_false h2
      rw [d1', d2']
      clear hl hx h1 h2
      go_enter Tryz.func5, Tryz.ntmps5
      go_wp2_with fail
      go_ret
      exact ⟨rfl, rfl⟩
  · have d1 : decide ((n : Int) ≤ 20) = false := decide_eq_false (by omega)
    have d1' : decide (n ≤ 20) = false := decide_eq_false h1
    rw [d1']
    clear hl hx h1
    go_enter Tryz.func5, Tryz.ntmps5
    go_wp2_with fail
    go_ret
    exact ⟨rfl, rfl⟩
section
variable (A : Option Addr) (n c : Nat) (l : List Stg) (A' : Option Addr) (m c' : Nat) (k : List Stg) (B : Option Addr) (nb cb : Nat) (bs : List UInt8) (w : World)
end
end Go.Proofs.YtohadkmaemmfgaaGreatDoor
namespace Go.Proofs.YtohadkmaemmfgaaGreatDoor
open Go.RowKit Go.Proofs Go.Shelf
set_option linter.unusedVariables false
set_option linter.unusedSimpArgs false
structure ColI (w : World) (n wn : Nat) (bs : List UInt8) (k : Nat) (W : World) : Prop where
  row : RowB W w.heap.size n (scat (colL n wn) bs k)
  out : Boxed W (w.heap.size + 1) 23 (.slice (some ⟨w.heap.size, 0, none⟩) n n)
  left : ∃ A' c', Boxed W (w.heap.size + 2) 23 (.slice A' (n - k) c') ∧ Bytes w A' (n - k) c' (bs.drop k)
  bn : Boxed W (w.heap.size + 3) 3 (.int .i64 (n : Int))
  bw : Boxed W (w.heap.size + 4) 3 (.int .i64 (wn : Int))
  below : Below w.heap.size w W
  size : w.heap.size + 5 ≤ W.heap.size
section
variable {w W W' : World} {n wn : Nat} {bs : List UInt8} {k : Nat}
theorem ColI.kept {row : Option Nat} (h : ColI w n wn bs k W) (hg : W.grownBy W' row) (hrow : ∀ r, row = some r → w.heap.size + 5 ≤ r) : ColI w n wn bs k W' := by
  have ne : ∀ j, j < w.heap.size + 5 → some j ≠ row := fun j hj e => by have := hrow j e.symm; omega
  obtain ⟨A', c', h1, h2⟩ := h.left
  exact ⟨h.row.keep (hg.block _ (by have := h.size; omega) (ne _ (by omega))), h.out.kept hg (ne _ (by omega)), ⟨A', c', h1.kept hg (ne _ (by omega)), h2⟩, h.bn.kept hg (ne _ (by omega)), h.bw.kept hg (ne _ (by omega)), h.below.grown hg h.below.size (fun r e => by have := hrow r e; omega), Nat.le_trans h.size hg.size⟩
end
def twoC (W : World) (p1 : Addr) (v1 : Value) (p2 : Addr) (v2 : Value) (listed : Array Bool) (w' : World) : Prop :=
  w' = (if listed.getD 9 false = true then (W.drew.setCell p1 v1).setCell p2 v2 else if listed.getD 8 false = true then W.drew.setCell p1 v1 else W.drew) ∧ (listed.getD 8 false = true → ∀ j, (j < 5 ∨ j = 7) → listed.getD j false = true) ∧ (listed.getD 9 false = true → ∀ j, j < 9 → listed.getD j false = true)
section
variable {W w' : World} {p1 p2 : Addr} {v1 v2 : Value} {listed : Array Bool}
theorem rep_false (n j : Nat) : (Array.replicate n false).getD j false = false := by
  rw [Array.getD_eq_getD_getElem?, Array.getElem?_replicate]
  split <;> rfl
theorem twoC.start : twoC W p1 v1 p2 v2 (Array.replicate 10 false) W.drew := by
  refine ⟨?_, fun e => ?_, fun e => ?_⟩
  · rw [rep_false, rep_false]; rfl
  · rw [rep_false] at e; cases e
  · rw [rep_false] at e; cases e
theorem twoC.set (h : twoC W p1 v1 p2 v2 listed w') {i : Nat} (hi : i < 8) (hs : i < listed.size) : twoC W p1 v1 p2 v2 (listed.setIfInBounds i true) w' := by
  have e : ∀ j, listed.getD j false = true → (listed.setIfInBounds i true).getD j false = true := fun j hj => by rw [Bwt.getD_set' _ _ _ hs, hj]; split <;> rfl
  have e8 : (listed.setIfInBounds i true).getD 8 false = listed.getD 8 false := by rw [Bwt.getD_set' _ _ _ hs, if_neg (by omega)]
  have e9 : (listed.setIfInBounds i true).getD 9 false = listed.getD 9 false := by rw [Bwt.getD_set' _ _ _ hs, if_neg (by omega)]
  refine ⟨?_, ?_, ?_⟩
  · rw [e8, e9]; exact h.1
  · rw [e8]; exact fun hc j hj => e j (h.2.1 hc j hj)
  · rw [e9]; exact fun hc j hj => e j (h.2.2 hc j hj)
end
end Go.Proofs.YtohadkmaemmfgaaGreatDoor
