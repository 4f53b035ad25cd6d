/- Dy Dz Eb. -/
import Derived.Test.YtohadkmaemmfgaaGreatDoorRI31
import Derived.Deep.RegionWith
import Derived.Test.YtohadkmaemmfgaaGreatDoorRI30
set_option maxRecDepth 100000
set_option maxHeartbeats 4000000
namespace Go.Proofs.YtohadkmaemmfgaaGreatDoor.Dic
open Go.RowKit Go.Proofs Go.Sort
set_option linter.unusedVariables false
def textL (src : List UInt8) : List UInt8 × List UInt8 × Nat :=
  if (intL src).2.2 ≠ 0 then ([], [], (intL src).2.2)
  else if 65536 < (intL src).1 then ([], [], 5)
  else if (intL src).2.1.length < (intL src).1 then ([], [], 9)
  else ((intL src).2.1.take (intL src).1, (intL src).2.1.drop (intL src).1, 0)
def RetBB (w : World) (x : List UInt8 × List UInt8 × Nat) (e : Ending) (w' : World) : Prop := ∃ A m c A' m' c', e = .returned (.tuple #[.slice A m c, .slice A' m' c', .int .i64 (x.2.2 : Int)]) ∧ Bytes w' A m c x.1 ∧ Own encB w' w.heap.size 5 A' m' c' x.2.1 ∧ Below w.heap.size w w'
theorem RetBB.err {w w' : World} {x : List UInt8 × List UInt8 × Nat} {k : Nat} (hx : x = ([], [], k)) (hb : Below w.heap.size w w') : RetBB w x (.returned (.tuple #[.slice none 0 0, .slice none 0 0, .int .i64 (k : Int)])) w' := by
  subst hx
  exact ⟨none, 0, 0, none, 0, 0, rfl, Bytes.nil _ _, Own.nil _ _ _ _, hb⟩
def splitL (n : Nat) (b : List UInt8) : List UInt8 × List UInt8 × Nat := if b.length < n then ([], [], 9) else (b.take n, b.drop n, 0)
theorem split_any (A : Option Addr) (m c n : Nat) (b : List UInt8) (w : World) (hx : Bytes w A m c b) (hm : m ≤ 1000000) (hn : n ≤ 1000000) :
    Calls Tryz.prog 216 #[.int .i64 (n : Int), .slice A m c] w (RetBB w (splitL n b)) := by
  have Hl := Lib.hid hx.1
  by_cases h : m < n
  · have d0 : decide ((m : Int) < (n : Int)) = true := by simp; omega
    have d0' : decide (m < n) = true := by simp; omega
    have hR : Hid (splitL n b = ([], [], 9)) := by show _ = _; unfold splitL; rw [if_pos (by rw [Hl.out]; exact h)]
    go_enter Tryz.func216, Tryz.ntmps216
    go_wp2_with fail
    go_ret3
    exact RetBB.err hR.out (Below.refl _ _)
  · have d0 : decide ((m : Int) < (n : Int)) = false := by simp; omega
    have d0' : decide (m < n) = false := by simp; omega
    have hR : Hid (splitL n b = (b.take n, b.drop n, 0)) := by show _ = _; unfold splitL; rw [if_neg (by rw [Hl.out]; exact h)]
    obtain ⟨r1, v1⟩ := hx.cut_h tB eB sB (n : Int) (by omega) (by omega)
    obtain ⟨A2, r2, v2⟩ := hx.cut_l tB eB sB (n : Int) (by omega) (by omega)
    rw [Int.toNat_natCast] at r1 v1 r2 v2
    have hbd : Below w.heap.size w w.drew := (Drawn.drewN w 1).below _
    have hn1 : n ≤ 1000000 := by omega
    have hn2 : m - n ≤ 1000000 := by omega
    go_enter Tryz.func216, Tryz.ntmps216
    go_wp2_with fail
    go_region_with (first
      | (go_at_call_of 17 (Value.slice A n c); refine (clone_any A n c _ w.drew (v1.below hbd) hn1).mono ?_; rintro e W1 ⟨A5, n5, c5, rfl, ho5, hb5⟩; have hbw5 : Below w.heap.size w W1 := hbd.trans hb5)
      | (go_at_call_of 17 (Value.slice A n c); refine (clone_any A n c _ W2 (v1.below hbw6) hn1).mono ?_; rintro e W1 ⟨A5, n5, c5, rfl, ho5, hb5⟩; have hbw5 : Below w.heap.size w W1 := hbw6.trans (hb5.mono hbw6.size))
      | (go_at_call_of 17 (Value.slice A2 (m - n) (c - n)); refine (clone_any A2 (m - n) (c - n) _ w.drew (v2.below hbd) hn2).mono ?_; rintro e W2 ⟨A6, n6, c6, rfl, ho6, hb6⟩; have hbw6 : Below w.heap.size w W2 := hbd.trans hb6)
      | (go_at_call_of 17 (Value.slice A2 (m - n) (c - n)); refine (clone_any A2 (m - n) (c - n) _ W1 (v2.below hbw5) hn2).mono ?_; rintro e W2 ⟨A6, n6, c6, rfl, ho6, hb6⟩; have hbw6 : Below w.heap.size w W2 := hbw5.trans (hb6.mono hbw5.size)))
    all_goals
      go_wp2_with fail
      go_ret3
      rw [hR.out]
      first
        | exact ⟨A5, n5, c5, A6, n6, c6, rfl, (ho5.below hb6).bytesBDic, ho6.mono hbw5.size, hbw6⟩
        | exact ⟨A5, n5, c5, A6, n6, c6, rfl, ho5.bytesBDic, ho6.below hb5, hbw5⟩
theorem textL_err {src : List UInt8} {k : Nat} (h : (intL src).2.2 = k) (hk : k ≠ 0) : textL src = ([], [], k) := by unfold textL; rw [if_pos (by rw [h]; exact hk), h]
theorem textL_long {src : List UInt8} (h : (intL src).2.2 = 0) (h2 : 65536 < (intL src).1) : textL src = ([], [], 5) := by unfold textL; rw [if_neg (by rw [h]; simp), if_pos h2]
theorem textL_split {src : List UInt8} (h : (intL src).2.2 = 0) (h2 : ¬ 65536 < (intL src).1) : textL src = splitL (intL src).1 (intL src).2.1 := by unfold textL splitL; rw [if_neg (by rw [h]; simp), if_neg h2]
theorem intL_len (src : List UInt8) : (intL src).2.1.length ≤ src.length := by
  unfold intL
  repeat' split
  all_goals simp
theorem intL_val (src : List UInt8) : (intL src).1 ≤ 9007199254740991 := by
  unfold intL
  repeat' split
  all_goals simp only [Nat.zero_le]
  rename_i h
  omega
theorem intL_errv (src : List UInt8) : (intL src).2.2 = 0 ∨ (intL src).2.2 = 3 ∨ (intL src).2.2 = 9 := by
  unfold intL
  repeat' split
  all_goals simp
theorem listP_any (A : Option Addr) (m c : Nat) (src : List UInt8) (w : World) (hx : Bytes w A m c src) (hm : m ≤ 1000000) :
    Calls Tryz.prog 215 #[.slice A m c, .func (.func 216) #[] #[]] w (RetBB w (textL src)) := by
  have Hl := Lib.hid hx.1
  have h1 := Lib.hid (intP_any A m c src w hx hm)
  have hlen := intL_len src
  rw [Hl.out] at hlen
  have hval := intL_val src
  have e1 := Lib.hid (fun h => textL_split (src := src) h)
  have e2 := Lib.hid (fun h => textL_long (src := src) h)
  have e3 := Lib.hid (fun k (h : (intL src).2.2 = k) => textL_err h)
  obtain ⟨x, hxx⟩ : ∃ x, x = intL src := ⟨_, rfl⟩
  rw [← hxx] at h1 hlen hval e1 e2 e3
  clear hxx
  obtain ⟨n, r, k⟩ := x
  simp only at hlen hval e1 e2 e3
  by_cases hk : k = 0
  · subst hk
    by_cases hbig : 65536 < n
    · have hR := Lib.hid (e2.out rfl hbig)
      have d1 : decide ((65536 : Int) < (n : Int)) = true := by simp; omega
      have d1' : decide (65536 < n) = true := by simp; omega
      clear e1 e2 e3
      go_enter Tryz.func215, Tryz.ntmps215
      go_wp2_with fail
      refine h1.out.mono ?_
      rintro e w1 ⟨A1, m1, c1, rfl, hs1, hb1⟩
      go_wp2_with fail
      go_ret3
      exact RetBB.err hR.out hb1
    · have hR := Lib.hid (e1.out rfl hbig)
      have d1 : decide ((65536 : Int) < (n : Int)) = false := by simp; omega
      have d1' : decide (65536 < n) = false := by simp; omega
      clear e1 e2 e3
      go_enter Tryz.func215, Tryz.ntmps215
      go_wp2_with fail
      refine h1.out.mono ?_
      rintro e w1 ⟨A1, m1, c1, rfl, hs1, hb1⟩
      have hm1 : m1 ≤ 1000000 := by rw [← hs1.length]; show r.length ≤ _; omega
      have h2 := split_any A1 m1 c1 n r w1 hs1.bytesBDic hm1 (by omega)
      rw [← hR.out] at h2
      have H2 := Lib.hid h2; clear h2
      have hsp : Hid (textL src = splitL n r) := hR
      by_cases hlt : r.length < n
      · have hT : Hid (textL src = ([], [], 9)) := by show _ = _; rw [hsp.out]; unfold splitL; rw [if_pos hlt]
        rw [hT.out] at H2
        go_wp2_with fail
        refine H2.out.mono ?_
        rintro e w2 ⟨A2, m2, c2, A3, m3, c3, rfl, hs2, hs3, hb2⟩
        go_wp2_with fail
        go_ret3
        exact RetBB.err hT.out (hb1.trans (hb2.mono hb1.size))
      · have hT : Hid (textL src = (r.take n, r.drop n, 0)) := by show _ = _; rw [hsp.out]; unfold splitL; rw [if_neg hlt]
        rw [hT.out] at H2
        go_wp2_with fail
        refine H2.out.mono ?_
        rintro e w2 ⟨A2, m2, c2, A3, m3, c3, rfl, hs2, hs3, hb2⟩
        go_wp2_with fail
        go_ret3
        rw [hT.out]
        exact ⟨A2, m2, c2, A3, m3, c3, rfl, hs2, hs3.mono hb1.size, hb1.trans (hb2.mono hb1.size)⟩
  · have hR := Lib.hid (e3.out k rfl hk)
    have d1 : ((k : Int) == 0) = false := by simp; omega
    have d2 : ((k : Int) != 0) = true := by simp; omega
    clear e1 e2 e3 hk
    go_enter Tryz.func215, Tryz.ntmps215
    go_wp2_with fail
    refine h1.out.mono ?_
    rintro e w1 ⟨A1, m1, c1, rfl, hs1, hb1⟩
    go_wp2_with fail
    go_ret3
    exact RetBB.err hR.out hb1
theorem bytesP_any (A : Option Addr) (m c : Nat) (src : List UInt8) (w : World) (hx : Bytes w A m c src) (hm : m ≤ 1000000) :
    Calls Tryz.prog 151 #[.slice A m c] w (RetBB w (textL src)) := by
  have h1 := Lib.hid (listP_any A m c src w hx hm)
  go_enter Tryz.func151, Tryz.ntmps151
  go_wp2_with fail
  refine h1.out.mono ?_
  rintro e w1 ⟨A1, m1, c1, A2, m2, c2, rfl, hs1, hs2, hb1⟩
  go_wp2_with fail
  go_ret3
  exact ⟨A1, m1, c1, A2, m2, c2, rfl, hs1, hs2, hb1⟩
def RetSB (w : World) (x : List UInt8 × List UInt8 × Nat) (e : Ending) (w' : World) : Prop := ∃ A' m' c', e = .returned (.tuple #[.string (strB x.1), .slice A' m' c', .int .i64 (x.2.2 : Int)]) ∧ Own encB w' w.heap.size 5 A' m' c' x.2.1 ∧ Below w.heap.size w w'
theorem textP_any (A : Option Addr) (m c : Nat) (src : List UInt8) (w : World) (hx : Bytes w A m c src) (hm : m ≤ 1000000) :
    Calls Tryz.prog 83 #[.slice A m c] w (RetSB w (textL src)) := by
  have h1 := Lib.hid (bytesP_any A m c src w hx hm)
  go_enter Tryz.func83, Tryz.ntmps83
  go_wp2_with fail
  refine h1.out.mono ?_
  rintro e w1 ⟨A1, m1, c1, A2, m2, c2, rfl, hs1, hs2, hb1⟩
  have s1 := hs1.str 23 5 9 uB Go.Proofs.YtohadkmaemmfgaaGreatDoor.Dic.u8 uS
  go_wp2_with fail
  go_ret3
  exact ⟨A2, m2, c2, rfl, hs2, hb1⟩
def lengthL (src : List UInt8) : Nat × List UInt8 × Nat := if (intL src).2.2 = 0 ∧ 65536 < (intL src).1 then (0, [], 5) else intL src
theorem lengthR_any (A : Option Addr) (m c : Nat) (src : List UInt8) (w : World) (hx : Bytes w A m c src) (hm : m ≤ 1000000) :
    Calls Tryz.prog 232 #[.slice A m c] w (RetIntB w (lengthL src)) := by
  have h1 := Lib.hid (intR_any A m c src w hx hm)
  have e0 : Hid (lengthL src = if (intL src).2.2 = 0 ∧ 65536 < (intL src).1 then (0, [], 5) else intL src) := rfl
  have hval := intL_val src
  obtain ⟨x, hxx⟩ : ∃ x, x = intL src := ⟨_, rfl⟩
  rw [← hxx] at h1 hval e0
  clear hxx
  obtain ⟨n, r, k⟩ := x
  simp only at hval e0
  by_cases hk : k = 0
  · subst hk
    by_cases hbig : 65536 < n
    · rw [if_pos ⟨rfl, hbig⟩] at e0
      have d1 : decide ((65536 : Int) < (n : Int)) = true := by simp; omega
      have d1' : decide (65536 < n) = true := by simp; omega
      go_enter Tryz.func232, Tryz.ntmps232
      go_wp2_with fail
      refine h1.out.mono ?_
      rintro e w1 ⟨A1, m1, c1, rfl, hs1, hb1⟩
      go_wp2_with fail
      go_ret3
      exact RetIntB.err e0.out hb1
    · rw [if_neg (fun h => hbig h.2)] at e0
      have d1 : decide ((65536 : Int) < (n : Int)) = false := by simp; omega
      have d1' : decide (65536 < n) = false := by simp; omega
      go_enter Tryz.func232, Tryz.ntmps232
      go_wp2_with fail
      refine h1.out.mono ?_
      rintro e w1 ⟨A1, m1, c1, rfl, hs1, hb1⟩
      go_wp2_with fail
      go_ret3
      rw [e0.out]
      exact ⟨A1, m1, c1, rfl, hs1, hb1⟩
  · rw [if_neg (fun h => hk h.1)] at e0
    have d1 : ((k : Int) == 0) = false := by simp; omega
    clear hk
    go_enter Tryz.func232, Tryz.ntmps232
    go_wp2_with fail
    refine h1.out.mono ?_
    rintro e w1 ⟨A1, m1, c1, rfl, hs1, hb1⟩
    go_wp2_with fail
    go_ret3
    rw [e0.out]
    exact ⟨A1, m1, c1, rfl, hs1, hb1⟩
theorem textL_length (src : List UInt8) : textL src = if (lengthL src).2.2 ≠ 0 then ([], [], (lengthL src).2.2) else splitL (lengthL src).1 (lengthL src).2.1 := by
  unfold textL lengthL splitL
  by_cases h : (intL src).2.2 = 0
  · by_cases h2 : 65536 < (intL src).1
    · simp [h, h2]
    · simp [h, h2]
  · simp [h]
theorem lengthL_facts (src : List UInt8) : (lengthL src).2.1.length ≤ src.length ∧ ((lengthL src).2.2 = 0 → (lengthL src).1 ≤ 65536) := by
  unfold lengthL
  split
  · simp
  · rename_i h
    exact ⟨intL_len src, fun h0 => by
      rcases Nat.lt_or_ge 65536 (intL src).1 with h1 | h1
      · exact absurd ⟨h0, h1⟩ h
      · exact h1⟩
theorem bytesR_any (A : Option Addr) (m c : Nat) (src : List UInt8) (w : World) (hx : Bytes w A m c src) (hm : m ≤ 1000000) :
    Calls Tryz.prog 172 #[.slice A m c] w (RetBB w (textL src)) := by
  have Hl := Lib.hid hx.1
  have h1 := Lib.hid (lengthR_any A m c src w hx hm)
  obtain ⟨hlen, hval⟩ := lengthL_facts src
  rw [Hl.out] at hlen
  have e0 := Lib.hid (textL_length src)
  obtain ⟨x, hxx⟩ : ∃ x, x = lengthL src := ⟨_, rfl⟩
  rw [← hxx] at h1 hlen hval e0
  clear hxx
  obtain ⟨n, r, k⟩ := x
  simp only at hlen hval e0
  by_cases hk : k = 0
  · subst hk
    rw [if_neg (by simp)] at e0
    have hn : n ≤ 65536 := hval rfl
    clear hval
    go_enter Tryz.func172, Tryz.ntmps172
    go_wp2_with fail
    refine h1.out.mono ?_
    rintro e w1 ⟨A1, m1, c1, rfl, hs1, hb1⟩
    have Hm1 := Lib.hid hs1.length
    have hs1' := hs1.bytesBDic
    have hm1 : m1 ≤ 1000000 := by rw [← hs1.length]; show r.length ≤ _; omega
    by_cases hlt : m1 < n
    · have hT : Hid (textL src = ([], [], 9)) := by show _ = _; rw [e0.out]; unfold splitL; rw [if_pos (by have := Hm1.out; simp only at this; omega)]
      have d0 : decide ((m1 : Int) < (n : Int)) = true := by simp; omega
      have d0' : decide (m1 < n) = true := by simp; omega
      go_wp2_with fail
      go_ret3
      exact RetBB.err hT.out hb1
    · have hT : Hid (textL src = (r.take n, r.drop n, 0)) := by show _ = _; rw [e0.out]; unfold splitL; rw [if_neg (by have := Hm1.out; simp only at this; omega)]
      have d0 : decide ((m1 : Int) < (n : Int)) = false := by simp; omega
      have d0' : decide (m1 < n) = false := by simp; omega
      obtain ⟨r1, v1⟩ := hs1'.cut_h tB eB sB (n : Int) (by omega) (by omega)
      obtain ⟨A2, r2, v2⟩ := hs1'.cut_l tB eB sB (n : Int) (by omega) (by omega)
      rw [Int.toNat_natCast] at r1 v1 r2 v2
      have hbd : Below w1.heap.size w1 w1.drew := (Drawn.drewN w1 1).below _
      have hn1 : n ≤ 1000000 := by omega
      have hn2 : m1 - n ≤ 1000000 := by omega
      go_wp2_with fail
      go_region_with (first
        | (go_at_call_of 171 (Value.slice A1 n c1); refine (restR_any A1 n c1 _ w1.drew (v1.below hbd) hn1).mono ?_; rintro e W1 ⟨A5, n5, c5, rfl, ho5, hb5⟩; have hbw5 : Below w1.heap.size w1 W1 := hbd.trans hb5)
        | (go_at_call_of 171 (Value.slice A1 n c1); refine (restR_any A1 n c1 _ W2 (v1.below hbw6) hn1).mono ?_; rintro e W1 ⟨A5, n5, c5, rfl, ho5, hb5⟩; have hbw5 : Below w1.heap.size w1 W1 := hbw6.trans (hb5.mono hbw6.size))
        | (go_at_call_of 171 (Value.slice A2 (m1 - n) (c1 - n)); refine (restR_any A2 (m1 - n) (c1 - n) _ w1.drew (v2.below hbd) hn2).mono ?_; rintro e W2 ⟨A6, n6, c6, rfl, ho6, hb6⟩; have hbw6 : Below w1.heap.size w1 W2 := hbd.trans hb6)
        | (go_at_call_of 171 (Value.slice A2 (m1 - n) (c1 - n)); refine (restR_any A2 (m1 - n) (c1 - n) _ W1 (v2.below hbw5) hn2).mono ?_; rintro e W2 ⟨A6, n6, c6, rfl, ho6, hb6⟩; have hbw6 : Below w1.heap.size w1 W2 := hbw5.trans (hb6.mono hbw5.size)))
      all_goals
        go_wp2_with fail
        go_ret3
        rw [hT.out]
        first
          | exact ⟨A5, n5, c5, A6, n6, c6, rfl, (ho5.below hb6).bytesBDic, ho6.mono (Nat.le_trans hb1.size hbw5.size), hb1.trans (hbw6.mono hb1.size)⟩
          | exact ⟨A5, n5, c5, A6, n6, c6, rfl, ho5.bytesBDic, (ho6.below hb5).mono hb1.size, hb1.trans (hbw5.mono hb1.size)⟩
  · rw [if_pos hk] at e0
    have d2 : ((k : Int) != 0) = true := by simp; omega
    clear hk hval
    go_enter Tryz.func172, Tryz.ntmps172
    go_wp2_with fail
    refine h1.out.mono ?_
    rintro e w1 ⟨A1, m1, c1, rfl, hs1, hb1⟩
    go_wp2_with fail
    go_ret3
    exact RetBB.err e0.out hb1
theorem textR_any (A : Option Addr) (m c : Nat) (src : List UInt8) (w : World) (hx : Bytes w A m c src) (hm : m ≤ 1000000) :
    Calls Tryz.prog 106 #[.slice A m c] w (RetSB w (textL src)) := by
  have h1 := Lib.hid (bytesR_any A m c src w hx hm)
  go_enter Tryz.func106, Tryz.ntmps106
  go_wp2_with fail
  refine h1.out.mono ?_
  rintro e w1 ⟨A1, m1, c1, A2, m2, c2, rfl, hs1, hs2, hb1⟩
  have s1 := hs1.str 23 5 9 uB Go.Proofs.YtohadkmaemmfgaaGreatDoor.Dic.u8 uS
  go_wp2_with fail
  go_ret3
  exact ⟨A2, m2, c2, rfl, hs2, hb1⟩
section
variable {α : Type} {enc : α → Value} {P : Program} {w : World} {B : Nat} {e t : TypeId} {A : Option Addr} {n c : Nat} {xs : List α} {zero : α} {bytes : Nat}
  {ops : Array Oper} {rest : List Oper} {o : Oper} {a : Act} {K : Act → World → Prop} {Q : Exit → Act → World → Prop} {E : Prop}
theorem wpList_pushg (hgd : o.guard = none) (s x : Operand) (ho : o.op = .call { callee := .builtin .append, args := #[s, x], argTypes := #[t, t] })
    (ht : P.underlying t = some (.slice e)) (hi : (P.info? e).map (fun i => (i.zero, i.size, i.bytes)) = some (some (enc zero), 1, bytes)) (h1 : ∀ x, (enc x).oneCell' = true) (hz : (enc zero).cells.size = 1)
    (hs : a.eval s = .slice A n c) (hown : Own enc w B e A n c xs) (hB : B ≤ w.heap.size) (y : α)
    (hx : a.eval x = .slice (some ⟨w.heap.size, 0, none⟩) 1 1) (hl : n + 1 ≤ maxLen) (hby : (n + 1) * bytes ≤ 140737488355328)
    (h : ∀ A2 c2 w', Own enc w' B e A2 (n + 1) c2 (xs ++ [y]) → Below B w w' → w.grownBy w' (Value.slice A n c).ownBlock → wpList P ops Q rest (a.put o.dst (.slice A2 (n + 1) c2)) w') : wpList P ops Q (o :: rest) a (w.alloc (.cells #[enc y] e)) := by
  refine wpList_plain hgd fun K hK => ?_
  obtain ⟨A2, c2, w', hrun, h2, h3, h4⟩ := run_append_own_one (P := P) o.type ht hi h1 hz hown hB y hl hby
  unfold Oper.wp execOp
  simp only [ho, resolve, invoke, builtin, Sem.run_bind, Sem.run_pure, Result.andThen_ok, List.map_toArray, List.map_cons, List.map_nil, hs, hx, hrun]
  exact hK _ _ (h A2 c2 w' h2 h3 (grownBy.trans' (World.grownBy_alloc w _ _) h4))
end
theorem own_block_lt {α : Type} {enc : α → Value} {w : World} {B : Nat} {e : TypeId} {A : Option Addr} {n c : Nat} {xs : List α} (h : Own enc w B e A n c xs) : ∀ g, (Value.slice A n c).ownBlock = some g → g < w.heap.size := fun g hg => by
  rcases h.2 with ⟨h1, _⟩ | ⟨g', cap, cur, h1, _, h3, _⟩
  · rw [h1] at hg; cases hg
  · rw [h1] at hg
    injection hg with hg
    have hg' : g' = g := hg
    subst hg'
    exact (Array.getElem?_eq_some_iff.1 h3).1
theorem _root_.Go.Proofs.YtohadkmaemmfgaaGreatDoor.Own.past {α : Type} {enc : α → Value} {X Y : World} {B N : Nat} {e : TypeId} {A : Option Addr} {n c : Nat} {xs : List α} {row : Option Nat} (h : Own enc X B e A n c xs) (hg : X.grownBy Y row) (hrow : ∀ g, row = some g → g < B) : Own enc Y B e A n c xs :=
  h.keepDic fun g o hB ho _ => (hg.block g (Array.getElem?_eq_some_iff.1 ho).1 (fun e => by have := hrow g e.symm; omega)).trans ho
theorem short_snoc {ws : List (List UInt8)} {s : List UInt8} (h : ∀ s ∈ ws, s.length ≤ 65536) (hs : s.length ≤ 65536) : ∀ t ∈ ws ++ [s], t.length ≤ 65536 := fun t ht => by
  rcases List.mem_append.1 ht with h1 | h1
  · exact h t h1
  · rw [List.mem_singleton] at h1; subst h1; exact hs
def readL : Nat → List UInt8 → List (List UInt8) → List (List UInt8) × List UInt8 × Nat
  | 0, r, ws => (ws, r, 0)
  | k + 1, r, ws => if (textL r).2.2 ≠ 0 then ([], [], (textL r).2.2) else readL k (textL r).2.1 (ws ++ [(textL r).1])
theorem textL_len (r : List UInt8) : (textL r).2.1.length ≤ r.length ∧ (textL r).1.length ≤ 65536 := by
  have := intL_len r
  unfold textL
  repeat' split
  all_goals simp
  omega

end Go.Proofs.YtohadkmaemmfgaaGreatDoor.Dic
