/- wire: further, number, put of a small number, Clone, PutInt, PutText. -/
import Derived.Test.YtdebhdopginllaaDoorDo
import Derived.WalkSpells
namespace Go.Proofs.YtdebhdopginllaaDoor
open Go.RowKit Go.Proofs Go.Sort
set_option linter.unusedVariables false

/-- a result: bytes of the call's own. -/
def RetOwn (B : Nat) (w : World) (xs : List UInt8) (e : Ending) (w' : World) : Prop := ∃ A n c, e = .returned (.slice A n c) ∧ Own encB w' B 5 A n c xs ∧ Below B w w'
theorem RetOwn.mk {B : Nat} {w w' : World} {xs : List UInt8} {A : Option Addr} {n c : Nat} (h : Own encB w' B 5 A n c xs) (hb : Below B w w') : RetOwn B w xs (.returned (.slice A n c)) w' := ⟨A, n, c, rfl, h, hb⟩

theorem number_any (n : Nat) (w : World) (hn : n ≤ 9007199254740991) : Calls Tryd.prog 57 #[.int .i64 (n : Int)] w fun e w' => e = .returned (.int .i64 (n : Int)) ∧ w' = w := by
  have d1 : decide ((n : Int) < 0) = false := by simp
  have d2 : decide ((9007199254740991 : Int) < (n : Int)) = false := by simp; omega
  go_enter Tryd.func57, Tryd.ntmps57
  go_wp2
  go_ret
  exact ⟨rfl, rfl⟩

def furL (n : Nat) : Nat := (Lib.bitLen n - 1) / 7
theorem further_any (n : Nat) (w : World) (hn : n < 4611686018427387904) : Calls Tryd.prog 58 #[.int .i64 (n : Int)] w fun e w' => e = .returned (.int .i64 ((furL n : Nat) : Int)) ∧ w' = w := by
  have hcal := Tryd.bits_Len (n : Int) w (by omega) (by omega)
  rw [Int.toNat_natCast] at hcal
  have Hcal := Lib.hid hcal; clear hcal
  have hbl : Lib.bitLen n ≤ 62 := Lib.bitLen_le n 62 (by omega) (by omega)
  have hf : Hid (furL n = (Lib.bitLen n - 1) / 7) := rfl
  obtain ⟨bl, hb⟩ : ∃ bl, bl = Lib.bitLen n := ⟨_, rfl⟩
  rw [← hb] at Hcal hbl hf
  clear hb
  have hw : IntKind.u64.wrap (n : Int) = (n : Int) := by simp [IntKind.wrap, IntKind.bits, IntKind.signed]; omega
  go_enter Tryd.func58, Tryd.ntmps58
  go_wp2_with fail
  refine Hcal.out.mono ?_
  rintro e w1 ⟨rfl, hw1⟩
  obtain rfl : w = w1 := hw1.symm
  go_wp2_with fail
  go_ret
  exact ⟨ret_int (by rw [hf.out]; omega), rfl⟩

theorem furL_small {n : Nat} (h : n ≤ 127) : furL n = 0 := by
  have : Lib.bitLen n ≤ 7 := Lib.bitLen_le n 7 (by omega) (by omega)
  unfold furL; omega
theorem or_zero_u8 : ∀ k : Fin 128, bits BinOp.or IntKind.u8 0 (k.val : Int) = (k.val : Int) := by decide +kernel
set_option maxHeartbeats 1000000 in
theorem put_small (B : Nat) (A : Option Addr) (m c : Nat) (xs : List UInt8) (n : Nat) (w : World) (hown : Own encB w B 5 A m c xs) (hB : B ≤ w.heap.size) (hm : m ≤ 1000000) (hn : n ≤ 127) :
    Calls Tryd.prog 42 #[.slice A m c, .int .i64 (n : Int)] w (RetOwn B w (xs ++ [UInt8.ofNat n])) := by
  have h1 := Lib.hid (number_any n w (by omega))
  have h2 := further_any n w (by omega)
  rw [furL_small hn] at h2
  have H2 := Lib.hid h2; clear h2
  have hor : bits BinOp.or IntKind.u8 0 (n : Int) = (n : Int) := or_zero_u8 ⟨n, by omega⟩
  have hv : Hid (encB (UInt8.ofNat n) = .int .u8 (n : Int)) := by show _ = _; unfold encB; rw [UInt8.toNat_ofNat', Nat.mod_eq_of_lt (by omega)]
  have m1 : Hid (m + 1 ≤ maxLen ∧ (m + 1) * 1 ≤ 140737488355328) := ⟨by simp [maxLen]; omega, by omega⟩
  go_enter Tryd.func42, Tryd.ntmps42
  go_wp2_with (first
    | (go_at_call 57; refine h1.out.mono ?_; rintro e w1 ⟨rfl, hw1⟩; obtain rfl : w = w1 := hw1.symm)
    | (go_at_call 58; refine H2.out.mono ?_; rintro e w1 ⟨rfl, hw1⟩; obtain rfl : w = w1 := hw1.symm)
    | (at_builtin; refine wpList_pushv (enc := encB) rfl (.tmp 15) (.tmp 23) rfl uB infoB encB_one rfl rfl hown hB (UInt8.ofNat n) _ hv.out rfl m1.out.1 m1.out.2 ?_; intro A6 c6 W6 ho6 hb6))
  refine wp_loop_rounds 1 ?_
  rw [rounds_succ]
  go_wp2_with fail
  go_ret
  exact RetOwn.mk ho6 hb6

theorem own_empty (w : World) (e : TypeId) : Own encB (w.alloc (.cells #[] e)) w.heap.size e (some ⟨w.heap.size, 0, none⟩) 0 0 [] :=
  ⟨rfl, .inr ⟨w.heap.size, 0, #[], rfl, Nat.le_refl _, World.alloc_heap_new w _, Nat.le_refl _, by simp [maxLen], rfl, rfl⟩⟩
set_option maxHeartbeats 1000000 in
theorem clone_any (A : Option Addr) (m c : Nat) (xs : List UInt8) (w : World) (hx : Bytes w A m c xs) (hm : m ≤ 1000000) :
    Calls Tryd.prog 43 #[.slice A m c] w (RetOwn w.heap.size w xs) := by
  have hq := Lib.run_eql_slice_nil (P := Tryd.prog)
  cases A with
  | none =>
    have h0 : m = 0 := by
      rcases Nat.eq_zero_or_pos m with h | h
      · exact h
      · obtain ⟨b, off, e, _⟩ := hx.2.2 h; cases e
    subst h0
    have hxs : xs = [] := List.length_eq_zero_iff.1 hx.1
    subst hxs
    have hr : ∀ w : World, (binOp .eql 22 (.slice none 0 c) (.slice none 0 0)).run Tryd.prog w = .ok (.bool true) w := fun w => by rw [hq w _ _ _ _ _ _ _ uB]; rfl
    clear hq
    go_enter Tryd.func43, Tryd.ntmps43
    go_wp2_with fail
    go_ret
    exact RetOwn.mk (Own.nil _ _ _ _) (Below.refl _ _)
  | some a =>
    have hr : ∀ w : World, (binOp .eql 22 (.slice (some a) m c) (.slice none 0 0)).run Tryd.prog w = .ok (.bool false) w := fun w => by rw [hq w _ _ _ _ _ _ _ uB]; rfl
    clear hq
    have hb0 : Below w.heap.size w (w.alloc (.cells #[] 5)) := (Below.refl _ _).alloc (Nat.le_refl _) _
    have hx1 := hx.below hb0
    have m1 : Hid (0 + m ≤ maxLen ∧ (0 + m) * 1 ≤ 140737488355328) := ⟨by simp [maxLen]; omega, by omega⟩
    have hB : Hid (w.heap.size ≤ (w.alloc (.cells #[] 5)).heap.size) := hb0.size
    go_enter Tryd.func43, Tryd.ntmps43
    go_wp2_with (at_builtin; refine wpList_app (enc := encB) rfl (.tmp 5) (.tmp 6) rfl uB infoB encB_one rfl rfl (own_empty w _) hB.out (some a) m c xs 0 hx1.1 hx1.2.2 rfl m1.out.1 m1.out.2 ?_; intro A6 c6 W6 ho6 hb6 hg6)
    go_ret
    rw [List.nil_append, Nat.zero_add] at ho6
    exact RetOwn.mk ho6 (hb0.trans hb6)

set_option maxHeartbeats 1000000 in
theorem putInt_small (A : Option Addr) (m c : Nat) (xs : List UInt8) (n : Nat) (w : World) (hx : Bytes w A m c xs) (hm : m ≤ 900000) (hn : n ≤ 127) :
    Calls Tryd.prog 30 #[.slice A m c, .int .i64 (n : Int)] w (RetOwn w.heap.size w (xs ++ [UInt8.ofNat n])) := by
  have hcal := Lib.hid (clone_any A m c xs w hx (by omega))
  have Hm := Lib.hid hx.1
  go_enter Tryd.func30, Tryd.ntmps30
  go_wp2_with fail
  refine hcal.out.mono ?_
  rintro e w1 ⟨A1, n1, c1, rfl, ho1, hb1⟩
  have hn1 : n1 ≤ 900000 := by rw [← ho1.length, Hm.out]; exact hm
  have hcal2 := Lib.hid (put_small w.heap.size A1 n1 c1 xs n w1 ho1 hb1.size (by omega) hn)
  go_wp2_with fail
  refine hcal2.out.mono ?_
  rintro e w2 ⟨A2, n2, c2, rfl, ho2, hb2⟩
  go_wp2_with fail
  go_ret
  exact RetOwn.mk ho2 (hb1.trans hb2)

set_option maxHeartbeats 1000000 in
theorem one_any (B : Nat) (A : Option Addr) (m c : Nat) (xs : List UInt8) (y : UInt8) (w : World) (hown : Own encB w B 5 A m c xs) (hB : B ≤ w.heap.size) (hm : m ≤ 1000000) :
    Calls Tryd.prog 44 #[.slice A m c, .int .u8 (y.toNat : Int)] w (RetOwn B w (xs ++ [y])) := by
  have m1 : Hid (m + 1 ≤ maxLen ∧ (m + 1) * 1 ≤ 140737488355328) := ⟨by simp [maxLen]; omega, by omega⟩
  go_enter Tryd.func44, Tryd.ntmps44
  go_wp2_with (at_builtin; refine wpList_pushv (enc := encB) rfl (.tmp 5) (.tmp 7) rfl uB infoB encB_one rfl rfl hown hB y _ rfl rfl m1.out.1 m1.out.2 ?_; intro A6 c6 W6 ho6 hb6)
  go_ret
  exact RetOwn.mk ho6 hb6

set_option maxHeartbeats 1000000 in
theorem list_small (A A' : Option Addr) (m c n c' : Nat) (xs ys : List UInt8) (w : World) (hx : Bytes w A m c xs) (hy : Bytes w A' n c' ys) (hm : m ≤ 800000) (hn : n ≤ 127) :
    Calls Tryd.prog 45 #[.agg #[.func (.func 44) #[] #[]], .slice A m c, .slice A' n c'] w (RetOwn w.heap.size w (xs ++ (UInt8.ofNat n :: ys))) := by
  have Hm := Lib.hid hx.1
  have Hn := Lib.hid hy.1
  go_enter Tryd.func45, Tryd.ntmps45
  have hb0 : Below w.heap.size w (w.alloc (.cells #[.func (.func 44) #[] #[]] 78)) := (Below.refl _ _).alloc (Nat.le_refl _) _
  have hbox0 := Boxed.new w 78 (.func (.func 44) #[] #[])
  go_wp2_with fail
  obtain ⟨w0, hw0⟩ : ∃ w0, w0 = w.alloc (.cells #[.func (.func 44) #[] #[]] 78) := ⟨_, rfl⟩
  rw [← hw0] at hb0 hbox0 ⊢
  clear hw0
  have hcal := Lib.hid (clone_any A m c xs w0 (hx.below hb0) (by omega))
  refine hcal.out.mono ?_
  rintro e w1 ⟨A1, n1, c1, rfl, ho1, hb1⟩
  have hn1 : n1 ≤ 800000 := by rw [← ho1.length, Hm.out]; exact hm
  have hcal2 := Lib.hid (put_small w0.heap.size A1 n1 c1 xs n w1 ho1 hb1.size (by omega) hn)
  clear hcal
  go_wp2_with fail
  refine hcal2.out.mono ?_
  rintro e w2 ⟨A2, n2, c2, rfl, ho2, hb2⟩
  have hb02 : Below w0.heap.size w0 w2 := hb1.trans hb2
  have hn2 : n2 ≤ 800001 := by rw [← ho2.length, List.length_append, Hm.out]; simp; omega
  clear hcal2
  go_wp2_with fail
  go_loopw [1, 8, 16] (fun o _ i wr => ∃ (k : Nat) (A3 : Option Addr) (n3 c3 : Nat), k ≤ n ∧ i = .int .i64 (k : Int) ∧ o = .slice A3 n3 c3 ∧ n3 ≤ 800001 + k ∧ Own encB wr w0.heap.size 5 A3 n3 c3 (xs ++ (UInt8.ofNat n :: ys.take k)) ∧ Below w0.heap.size w0 wr) (fun _ _ i _ => n - (intOf i).toNat)
  case atStart => exact ⟨0, A2, n2, c2, Nat.zero_le _, rfl, rfl, by omega, by simpa using ho2, hb02⟩
  case round =>
    obtain ⟨k, A3, n3, c3, hk, rfl, rfl, hn3, ho3, hb3⟩ := hrel
    by_cases hlt : k < n
    · have dk : decide ((k : Int) < (n : Int)) = true := by simp; omega
      have dk' : decide (k < n) = true := by simp; omega
      have hyr := (hy.below hb0).below hb3
      have hq := (Boxed.below' hbox0 hb3 hbox0.lt).cell
      obtain ⟨b4, off4, rfl, hb4, hc4⟩ := hyr.get hlt
      have c4 := hc4 k hlt
      clear hc4
      have hgb : gb ys k = ((ys.getD k 0).toNat : Int) := rfl
      rw [hgb] at c4
      have hcal3 := Lib.hid (one_any w0.heap.size A3 n3 c3 _ (ys.getD k 0) wr ho3 hb3.size (by omega))
      have hnx : Hid (ys.take (k + 1) = ys.take k ++ [ys.getD k 0]) := by
        show _ = _
        have hk' : k < ys.length := by rw [Hn.out]; exact hlt
        rw [List.take_succ_eq_append_getElem hk']; simp [List.getD, hk']
      clear hgb
      go_wp2_with fail
      refine hcal3.out.mono ?_
      rintro e w5 ⟨A5, n5, c5, rfl, ho5, hb5⟩
      have hn5 : Hid (n5 = n3 + 1) := by show _ = _; have h1 := ho5.length; have h2 := ho3.length; rw [List.length_append, h2] at h1; simp at h1; omega
      go_wp2_with fail
      go_roundw
      case rel => exact ⟨k + 1, A5, n5, c5, by omega, by go_num, rfl, by rw [hn5.out]; omega, by rw [hnx.out]; simpa using ho5, hb3.trans hb5⟩
      case measure => simp [intOf]; omega
    · have dk : decide ((k : Int) < (n : Int)) = false := by simp; omega
      have dk' : decide (k < n) = false := by simp; omega
      have hnx : Hid (ys.take k = ys) := List.take_of_length_le (by rw [Hn.out]; omega)
      go_wp2_with fail
      go_ret
      rw [hnx.out] at ho3
      exact RetOwn.mk (ho3.mono hb0.size) (hb0.trans (hb3.mono hb0.size))

set_option maxHeartbeats 1000000 in
theorem putText_small (A : Option Addr) (m c : Nat) (xs ys : List UInt8) (w : World) (hx : Bytes w A m c xs) (hm : m ≤ 800000) (hn : ys.length ≤ 127) :
    Calls Tryd.prog 31 #[.slice A m c, .string (strB ys)] w (RetOwn w.heap.size w (xs ++ (UInt8.ofNat ys.length :: ys))) := by
  obtain ⟨c5, w1, hr, hb, hbel⟩ := conv_bytes (P := Tryd.prog) 9 22 5 uS uB u8 w ys
  have hcal := Lib.hid (list_small A _ m c _ c5 xs ys w1 (hx.below hbel) hb hm hn)
  go_enter Tryd.func31, Tryd.ntmps31
  go_wp2_with fail
  refine hcal.out.mono ?_
  rintro e w2 ⟨A2, n2, c2, rfl, ho2, hb2⟩
  go_wp2_with fail
  go_ret
  exact RetOwn.mk (ho2.mono hbel.size) (hbel.trans (hb2.mono hbel.size))
end Go.Proofs.YtdebhdopginllaaDoor
