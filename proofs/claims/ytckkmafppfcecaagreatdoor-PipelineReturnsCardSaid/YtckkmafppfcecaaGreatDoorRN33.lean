/- Dt Du Dv Ek. -/
import Derived.Test.YtckkmafppfcecaaGreatDoorRN53
import Derived.Test.YtckkmafppfcecaaGreatDoorRN32
import Derived.WalkSpells
import Derived.Lib.SlBytesConst
set_option maxRecDepth 100000
set_option maxHeartbeats 4000000
namespace Go.Proofs.YtckkmafppfcecaaGreatDoor.Dic
open Go.RowKit Go.Proofs Go.Sort
set_option linter.unusedVariables false
def RetOwn (B : Nat) (w : World) (xs : List UInt8) (e : Ending) (w' : World) : Prop := ∃ A n c, e = .returned (.slice A n c) ∧ Own encB w' B 5 A n c xs ∧ Below B w w'
theorem RetOwn.mk {B : Nat} {w w' : World} {xs : List UInt8} {A : Option Addr} {n c : Nat} (h : Own encB w' B 5 A n c xs) (hb : Below B w w') : RetOwn B w xs (.returned (.slice A n c)) w' := ⟨A, n, c, rfl, h, hb⟩
theorem number_any (n : Nat) (w : World) (hn : n ≤ 9007199254740991) : Calls Tryz.prog 257 #[.int .i64 (n : Int)] w fun e w' => e = .returned (.int .i64 (n : Int)) ∧ w' = w := by
  have d1 : decide ((n : Int) < 0) = false := by simp
  have d2 : decide ((9007199254740991 : Int) < (n : Int)) = false := by simp; omega
  go_enter Tryz.func257, Tryz.ntmps257
  go_wp2
  go_ret
  exact ⟨rfl, rfl⟩
def furL (n : Nat) : Nat := (Lib.bitLen n - 1) / 7
theorem further_any (n : Nat) (w : World) (hn : n < 4611686018427387904) : Calls Tryz.prog 190 #[.int .i64 (n : Int)] w fun e w' => e = .returned (.int .i64 ((furL n : Nat) : Int)) ∧ w' = w := by
  have hcal := Tryz.bits_Len (n : Int) w (by omega) (by omega)
  rw [Int.toNat_natCast] at hcal
  have Hcal := Lib.hid hcal; clear hcal
  have hbl : Lib.bitLen n ≤ 62 := Lib.bitLen_le n 62 (by omega) (by omega)
  have hf : Hid (furL n = (Lib.bitLen n - 1) / 7) := rfl
  obtain ⟨bl, hb⟩ : ∃ bl, bl = Lib.bitLen n := ⟨_, rfl⟩
  rw [← hb] at Hcal hbl hf
  clear hb
  have hw : IntKind.u64.wrap (n : Int) = (n : Int) := by simp [IntKind.wrap, IntKind.bits, IntKind.signed]; omega
  go_enter Tryz.func190, Tryz.ntmps190
  go_wp2_with fail
  refine Hcal.out.mono ?_
  rintro e w1 ⟨rfl, hw1⟩
  obtain rfl : w = w1 := hw1.symm
  go_wp2_with fail
  go_ret
  exact ⟨ret_int (by rw [hf.out]; omega), rfl⟩
theorem furL_small {n : Nat} (h : n ≤ 127) : furL n = 0 := by
  have : Lib.bitLen n ≤ 7 := Lib.bitLen_le n 7 (by omega) (by omega)
  unfold furL; omega
theorem or_zero_u8 : ∀ k : Fin 128, bits BinOp.or IntKind.u8 0 (k.val : Int) = (k.val : Int) := by decide +kernel
theorem put_small (B : Nat) (A : Option Addr) (m c : Nat) (xs : List UInt8) (n : Nat) (w : World) (hown : Own encB w B 5 A m c xs) (hB : B ≤ w.heap.size) (hm : m ≤ 1000000) (hn : n ≤ 127) :
    Calls Tryz.prog 186 #[.slice A m c, .int .i64 (n : Int)] w (RetOwn B w (xs ++ [UInt8.ofNat n])) := by
  have h1 := Lib.hid (number_any n w (by omega))
  have h2 := further_any n w (by omega)
  rw [furL_small hn] at h2
  have H2 := Lib.hid h2; clear h2
  have hor : bits BinOp.or IntKind.u8 0 (n : Int) = (n : Int) := or_zero_u8 ⟨n, by omega⟩
  have hv : Hid (encB (UInt8.ofNat n) = .int .u8 (n : Int)) := by show _ = _; unfold encB; rw [UInt8.toNat_ofNat', Nat.mod_eq_of_lt (by omega)]
  have m1 : Hid (m + 1 ≤ maxLen ∧ (m + 1) * 1 ≤ 140737488355328) := ⟨by simp [maxLen]; omega, by omega⟩
  go_enter Tryz.func186, Tryz.ntmps186
  go_wp2_with (first
    | (go_at_call 257; refine h1.out.mono ?_; rintro e w1 ⟨rfl, hw1⟩; obtain rfl : w = w1 := hw1.symm)
    | (go_at_call 190; refine H2.out.mono ?_; rintro e w1 ⟨rfl, hw1⟩; obtain rfl : w = w1 := hw1.symm)
    | (at_builtin; refine wpList_pushv (enc := encB) rfl (.tmp 15) (.tmp 23) rfl uB infoB encB_one rfl rfl hown hB (UInt8.ofNat n) _ hv.out rfl m1.out.1 m1.out.2 ?_; intro A6 c6 W6 ho6 hb6))
  refine wp_loop_rounds 1 ?_
  rw [rounds_succ]
  go_wp2_with fail
  go_ret
  exact RetOwn.mk ho6 hb6
theorem own_empty (w : World) (e : TypeId) : Own encB (w.alloc (.cells #[] e)) w.heap.size e (some ⟨w.heap.size, 0, none⟩) 0 0 [] :=
  ⟨rfl, .inr ⟨w.heap.size, 0, #[], rfl, Nat.le_refl _, World.alloc_heap_new w _, Nat.le_refl _, by simp [maxLen], rfl, rfl⟩⟩
theorem clone_any (A : Option Addr) (m c : Nat) (xs : List UInt8) (w : World) (hx : Bytes w A m c xs) (hm : m ≤ 1000000) :
    Calls Tryz.prog 31 #[.slice A m c] w (RetOwn w.heap.size w xs) := by
  apply Go.Proofs.YtckkmafppfcecaaGreatDoor.clone_any <;> assumption
theorem putInt_small (A : Option Addr) (m c : Nat) (xs : List UInt8) (n : Nat) (w : World) (hx : Bytes w A m c xs) (hm : m ≤ 900000) (hn : n ≤ 127) :
    Calls Tryz.prog 116 #[.slice A m c, .int .i64 (n : Int)] w (RetOwn w.heap.size w (xs ++ [UInt8.ofNat n])) := by
  have hcal := Lib.hid (clone_any A m c xs w hx (by omega))
  have Hm := Lib.hid hx.1
  go_enter Tryz.func116, Tryz.ntmps116
  go_wp2_with fail
  refine hcal.out.mono ?_
  rintro e w1 ⟨A1, n1, c1, rfl, ho1, hb1⟩
  have hn1 : n1 ≤ 900000 := by rw [← ho1.length, Hm.out]; exact hm
  have hcal2 := Lib.hid (put_small w.heap.size A1 n1 c1 xs n w1 ho1 hb1.size (by omega) hn)
  go_wp2_with fail
  refine hcal2.out.mono ?_
  rintro e w2 ⟨A2, n2, c2, rfl, ho2, hb2⟩
  go_wp2_with fail
  go_ret
  exact RetOwn.mk ho2 (hb1.trans hb2)
theorem one_any (B : Nat) (A : Option Addr) (m c : Nat) (xs : List UInt8) (y : UInt8) (w : World) (hown : Own encB w B 5 A m c xs) (hB : B ≤ w.heap.size) (hm : m ≤ 1000000) :
    Calls Tryz.prog 187 #[.slice A m c, .int .u8 (y.toNat : Int)] w (RetOwn B w (xs ++ [y])) := by
  have m1 : Hid (m + 1 ≤ maxLen ∧ (m + 1) * 1 ≤ 140737488355328) := ⟨by simp [maxLen]; omega, by omega⟩
  go_enter Tryz.func187, Tryz.ntmps187
  go_wp2_with (at_builtin; refine wpList_pushv (enc := encB) rfl (.tmp 5) (.tmp 7) rfl uB infoB encB_one rfl rfl hown hB y _ rfl rfl m1.out.1 m1.out.2 ?_; intro A6 c6 W6 ho6 hb6)
  go_ret
  exact RetOwn.mk ho6 hb6
theorem list_small (A A' : Option Addr) (m c n c' : Nat) (xs ys : List UInt8) (w : World) (hx : Bytes w A m c xs) (hy : Bytes w A' n c' ys) (hm : m ≤ 800000) (hn : n ≤ 127) :
    Calls Tryz.prog 188 #[.agg #[.func (.func 187) #[] #[]], .slice A m c, .slice A' n c'] w (RetOwn w.heap.size w (xs ++ (UInt8.ofNat n :: ys))) := by
  have Hm := Lib.hid hx.1
  have Hn := Lib.hid hy.1
  go_enter Tryz.func188, Tryz.ntmps188
  have hb0 : Below w.heap.size w (w.alloc (.cells #[.func (.func 187) #[] #[]] 215)) := (Below.refl _ _).alloc (Nat.le_refl _) _
  have hbox0 := Boxed.new w 215 (.func (.func 187) #[] #[])
  go_wp2_with fail
  obtain ⟨w0, hw0⟩ : ∃ w0, w0 = w.alloc (.cells #[.func (.func 187) #[] #[]] 215) := ⟨_, rfl⟩
  rw [← hw0] at hb0 hbox0 ⊢
  clear hw0
  have hcal := Lib.hid (clone_any A m c xs w0 (hx.below hb0) (by omega))
  refine hcal.out.mono ?_
  rintro e w1 ⟨A1, n1, c1, rfl, ho1, hb1⟩
  have hn1 : n1 ≤ 800000 := by rw [← ho1.length, Hm.out]; exact hm
  have hcal2 := Lib.hid (put_small w0.heap.size A1 n1 c1 xs n w1 ho1 hb1.size (by omega) hn)
  clear hcal
  go_wp2_with fail
  refine hcal2.out.mono ?_
  rintro e w2 ⟨A2, n2, c2, rfl, ho2, hb2⟩
  have hb02 : Below w0.heap.size w0 w2 := hb1.trans hb2
  have hn2 : n2 ≤ 800001 := by rw [← ho2.length, List.length_append, Hm.out]; simp; omega
  clear hcal2
  go_wp2_with fail
  go_loopw [1, 8, 16] (fun o _ i wr => ∃ (k : Nat) (A3 : Option Addr) (n3 c3 : Nat), k ≤ n ∧ i = .int .i64 (k : Int) ∧ o = .slice A3 n3 c3 ∧ n3 ≤ 800001 + k ∧ Own encB wr w0.heap.size 5 A3 n3 c3 (xs ++ (UInt8.ofNat n :: ys.take k)) ∧ Below w0.heap.size w0 wr) (fun _ _ i _ => n - (intOf i).toNat)
  case atStart => exact ⟨0, A2, n2, c2, Nat.zero_le _, rfl, rfl, by omega, by simpa using ho2, hb02⟩
  case round =>
    obtain ⟨k, A3, n3, c3, hk, rfl, rfl, hn3, ho3, hb3⟩ := hrel
    by_cases hlt : k < n
    · have dk : decide ((k : Int) < (n : Int)) = true := by simp; omega
      have dk' : decide (k < n) = true := by simp; omega
      have hyr := (hy.below hb0).below hb3
      have hq := (Boxed.below' hbox0 hb3 hbox0.lt).cell
      obtain ⟨b4, off4, rfl, hb4, hc4⟩ := hyr.get hlt
      have c4 := hc4 k hlt
      clear hc4
      have hgb : gb ys k = ((ys.getD k 0).toNat : Int) := rfl
      rw [hgb] at c4
      have hcal3 := Lib.hid (one_any w0.heap.size A3 n3 c3 _ (ys.getD k 0) wr ho3 hb3.size (by omega))
      have hnx : Hid (ys.take (k + 1) = ys.take k ++ [ys.getD k 0]) := by
        show _ = _
        have hk' : k < ys.length := by rw [Hn.out]; exact hlt
        rw [List.take_succ_eq_append_getElem hk']; simp [List.getD, hk']
      clear hgb
      go_wp2_with fail
      refine hcal3.out.mono ?_
      rintro e w5 ⟨A5, n5, c5, rfl, ho5, hb5⟩
      have hn5 : Hid (n5 = n3 + 1) := by show _ = _; have h1 := ho5.length; have h2 := ho3.length; rw [List.length_append, h2] at h1; simp at h1; omega
      go_wp2_with fail
      go_roundw
      case rel => exact ⟨k + 1, A5, n5, c5, by omega, by go_num, rfl, by rw [hn5.out]; omega, by rw [hnx.out]; simpa using ho5, hb3.trans hb5⟩
      case measure => simp [intOf]; omega
    · have dk : decide ((k : Int) < (n : Int)) = false := by simp; omega
      have dk' : decide (k < n) = false := by simp; omega
      have hnx : Hid (ys.take k = ys) := List.take_of_length_le (by rw [Hn.out]; omega)
      go_wp2_with fail
      go_ret
      rw [hnx.out] at ho3
      exact RetOwn.mk (ho3.mono hb0.size) (hb0.trans (hb3.mono hb0.size))
theorem putText_small (A : Option Addr) (m c : Nat) (xs ys : List UInt8) (w : World) (hx : Bytes w A m c xs) (hm : m ≤ 800000) (hn : ys.length ≤ 127) :
    Calls Tryz.prog 117 #[.slice A m c, .string (strB ys)] w (RetOwn w.heap.size w (xs ++ (UInt8.ofNat ys.length :: ys))) := by
  obtain ⟨c5, w1, hr, hb, hbel⟩ := conv_bytes (P := Tryz.prog) 9 23 5 uS uB u8 w ys
  have hcal := Lib.hid (list_small A _ m c _ c5 xs ys w1 (hx.below hbel) hb hm hn)
  go_enter Tryz.func117, Tryz.ntmps117
  go_wp2_with fail
  refine hcal.out.mono ?_
  rintro e w2 ⟨A2, n2, c2, rfl, ho2, hb2⟩
  go_wp2_with fail
  go_ret
  exact RetOwn.mk (ho2.mono hbel.size) (hbel.trans (hb2.mono hbel.size))
theorem learnSel_ok {ws : List (List UInt8)} : ∀ (m : Nat) (out : List (List UInt8)), out.Nodup → (∀ s ∈ out, s ∈ ws ∧ candP ws s) → (learnSel ws m out).Nodup ∧ (∀ s ∈ learnSel ws m out, s ∈ ws ∧ candP ws s) ∧ (learnSel ws m out).length ≤ out.length + m
  | 0, out, h1, h2 => ⟨h1, h2, Nat.le_refl _⟩
  | m + 1, out, h1, h2 => by
    rw [learnSel]
    have B := best_any (ws := ws) (out := out) (Nat.le_refl _)
    by_cases h : (bestTo ws out ws.length).2 ≤ 0
    · rw [if_pos h]; exact ⟨h1, h2, by omega⟩
    · rw [if_neg h]
      obtain ⟨b1, b2, b3, b4⟩ := B.mem (by omega)
      have ih := learnSel_ok m (out ++ [(bestTo ws out ws.length).1]) (by
        rw [List.nodup_append]
        refine ⟨h1, by simp, fun a ha b hb e => ?_⟩
        rw [List.mem_singleton] at hb
        subst hb e
        exact b3 ha) (fun s hs => by
        rw [List.mem_append, List.mem_singleton] at hs
        rcases hs with hs | rfl
        · exact h2 s hs
        · exact ⟨b1, b2⟩)
      refine ⟨ih.1, ih.2.1, ?_⟩
      have := ih.2.2
      rw [List.length_append] at this
      simp at this
      omega
theorem learn_check (bs : List UInt8) {most : Nat} (h : most ≤ 64) : checkL (learnL bs most) = 0 := by
  obtain ⟨h1, h2, h3⟩ := learnSel_ok (ws := wordsL bs) most [] List.nodup_nil (fun s hs => by cases hs)
  exact checkL_zero.2 ⟨by simp at h3; unfold learnL; omega, fun s hs => (h2 s hs).2.1, h1⟩
def textsL : List (List UInt8) → List UInt8
  | [] => []
  | s :: r => UInt8.ofNat s.length :: s ++ textsL r
theorem textsL_append (x y : List (List UInt8)) : textsL (x ++ y) = textsL x ++ textsL y := by
  induction x with
  | nil => rfl
  | cons s r ih => simp [textsL, ih]
def forwardL (bs : List UInt8) : List UInt8 := UInt8.ofNat (learnL bs 64).length :: textsL (learnL bs 64) ++ codeL (learnL bs 64) bs
theorem word_le {s : List UInt8} (h : isWordB s = true) : s.length ≤ 32 := by simp [isWordB] at h; exact h.2.1
def forwardQ (bs : List UInt8) : List UInt8 × Nat := if 65536 < bs.length then ([], 5) else if 65536 < (codeL (learnL bs 64) bs).length then ([], 5) else if 65536 < (forwardL bs).length then ([], 5) else (forwardL bs, 0)
theorem forwardP_gen (A : Option Addr) (c m : Nat) (bs : List UInt8) (w : World) (hy : Bytes w A m c bs) (hm : m ≤ 65536) :
    Calls Tryz.prog 63 #[.slice A m c] w (RetBytes w (forwardQ bs).1 ((forwardQ bs).2 : Nat)) := by
  have Hl := Lib.hid hy.1
  have hcal := learnP_any A c m bs 64 w hy hm (by omega)
  have hck := learn_check bs (most := 64) (by omega)
  obtain ⟨hwl, hww, hwn⟩ := checkL_zero.1 hck
  have hlr : learnR bs 64 = (learnL bs 64, 0) := by unfold learnR; rw [if_neg (by omega)]; rfl
  rw [hlr] at hcal
  have Hcal := Lib.hid hcal; clear hcal hlr
  have hF : Hid (forwardL bs = UInt8.ofNat (learnL bs 64).length :: textsL (learnL bs 64) ++ codeL (learnL bs 64) bs) := rfl
  have hQ : Hid (forwardQ bs = if 65536 < (codeL (learnL bs 64) bs).length then ([], 5) else if 65536 < (forwardL bs).length then ([], 5) else (forwardL bs, 0)) := by show _ = _; unfold forwardQ; rw [hy.1, if_neg (by omega)]
  obtain ⟨ws, hws⟩ : ∃ ws, ws = learnL bs 64 := ⟨_, rfl⟩
  rw [← hws] at Hcal hF hQ hck hwl hww
  clear hws hwn
  have Hck := Lib.hid hck; clear hck
  have Hww := Lib.hid hww; clear hww
  go_enter Tryz.func63, Tryz.ntmps63
  go_wp2_with fail
  refine Hcal.out.mono ?_
  rintro e w1 ⟨A1, n1, c1, rfl, hs1, hb1⟩
  have Hn1 := Lib.hid hs1.1
  rw [Hn1.out] at hwl
  have hcc := codeP_gen A1 A c1 c n1 m ws bs w1 hs1 (hy.below hb1) (by omega) (fun s hs => by have := word_le (Hww.out s hs); omega) hm
  have hcr : codeQ ws bs = if 65536 < (codeL ws bs).length then ([], 5) else (codeL ws bs, 0) := by unfold codeQ codeR; rw [if_pos Hck.out]; simp only [true_and]
  by_cases hlc : 65536 < (codeL ws bs).length
  · have hQ2 : Hid (forwardQ bs = ([], 5)) := by show _ = _; rw [hQ.out, if_pos hlc]
    rw [hcr, if_pos hlc] at hcc
    have Hcc := Lib.hid hcc
    clear hcc hcr Hcal hlc
    go_wp2_with fail
    refine Hcc.out.mono ?_
    rintro e w2 ⟨A2, n2, c2, rfl, hx2, hb2⟩
    go_wp2_with fail
    go_ret2
    rw [hQ2.out]
    exact RetBytes.err rfl (hb1.trans (hb2.mono hb1.size))
  rw [hcr, if_neg hlc] at hcc
  have hQ3 : Hid (forwardQ bs = if 65536 < (forwardL bs).length then ([], 5) else (forwardL bs, 0)) := by show _ = _; rw [hQ.out, if_neg hlc]
  have HLC := Lib.hid hlc
  have Hcc := Lib.hid hcc; clear hcc hcr Hcal hlc hQ
  go_wp2_with fail
  refine Hcc.out.mono ?_
  rintro e w2 ⟨A2, n2, c2, rfl, hx2, hb2⟩
  have hs2 := hs1.below hb2
  have hn2 : n2 ≤ 65536 := by rw [← hx2.1]; have := HLC.out; omega
  have hpi := Lib.hid (putInt_small none 0 0 [] n1 w2 (Bytes.nil w2 0) (by omega) (by omega))
  clear Hcc hs1
  go_wp2_with fail
  refine hpi.out.mono ?_
  rintro e w3 ⟨A3, n3, c3, rfl, ho3, hb3⟩
  rw [List.nil_append] at ho3
  have hn3 : n3 ≤ 1 := by rw [← ho3.length]; simp
  clear hpi
  have hb13 : Below w2.heap.size w2 w3 := hb3
  go_wp2_with fail
  go_loopw [7, 9, 32] (fun o _ i wr => ∃ (k : Nat) (A4 : Option Addr) (n4 c4 : Nat) (B4 : Nat), k ≤ n1 ∧ i = .int .i64 (k : Int) ∧ o = .slice A4 n4 c4 ∧ n4 ≤ 1 + 33 * k ∧ w2.heap.size ≤ B4 ∧ B4 ≤ wr.heap.size ∧ Own encB wr B4 5 A4 n4 c4 (UInt8.ofNat n1 :: textsL (ws.take k)) ∧ Below w2.heap.size w2 wr) (fun _ _ i _ => n1 - (intOf i).toNat)
  case atStart => exact ⟨0, A3, n3, c3, w2.heap.size, Nat.zero_le _, rfl, rfl, by omega, Nat.le_refl _, hb3.size, ho3, hb3⟩
  case round =>
    obtain ⟨k, A4, n4, c4, B4, hk, rfl, rfl, hn4, hB4, hB4', ho4, hb4⟩ := hrel
    by_cases hlt : k < n1
    · have dk : decide ((k : Int) < (n1 : Int)) = true := by simp; omega
      have dk' : decide (k < n1) = true := by simp; omega
      have hkl : k < ws.length := by rw [Hn1.out]; exact hlt
      obtain ⟨b5, off5, rfl, hb5, hc5⟩ := (hs2.below hb4).get hlt
      have c5 := hc5 k hlt
      clear hc5
      have hwk : (gs ws k).length ≤ 32 := by rw [gs_get hkl]; exact word_le (Hww.out _ (List.getElem_mem hkl))
      have hnx : Hid (textsL (ws.take (k + 1)) = textsL (ws.take k) ++ (UInt8.ofNat (gs ws k).length :: gs ws k)) := by
        show _ = _
        rw [List.take_succ_eq_append_getElem hkl, textsL_append, ← gs_get hkl]
        simp [textsL]
      have hpt := Lib.hid (putText_small A4 n4 c4 _ (gs ws k) wr ho4.bytesBDic (by omega) (by omega))
      have hlen4 := Lib.hid ho4.length
      go_wp2_with fail
      refine hpt.out.mono ?_
      rintro e w6 ⟨A6, n6, c6, rfl, ho6, hb6⟩
      have hn6 : Hid (n6 ≤ n4 + 33) := by
        show _ ≤ _
        have h1 := ho6.length
        rw [List.length_append, hlen4.out] at h1
        simp at h1
        omega
      go_wp2_with fail
      go_roundw
      case rel => exact ⟨k + 1, A6, n6, c6, wr.heap.size, by omega, by go_num, rfl, by have := hn6.out; omega, hb4.size, hb6.size, by rw [hnx.out]; simpa using ho6, hb4.trans (hb6.mono hb4.size)⟩
      case measure => simp [intOf]; omega
    · have dk : decide ((k : Int) < (n1 : Int)) = false := by simp; omega
      have dk' : decide (k < n1) = false := by simp; omega
      have hnx : Hid (ws.take k = ws) := List.take_of_length_le (by rw [Hn1.out]; omega)
      have hx4 := hx2.below hb4
      have m1 : Hid (n4 + n2 ≤ maxLen ∧ (n4 + n2) * 1 ≤ 140737488355328) := ⟨by simp [maxLen]; omega, by omega⟩
      have HxL := Lib.hid hx4.1
      have hB4h := Lib.hid hB4'
      have hFl : (forwardL bs).length = n4 + n2 := by
        rw [hF.out, List.length_append, hx2.1, ← ho4.length, hnx.out, Hn1.out]
      by_cases h65 : 65536 < n4 + n2
      · have hQ4 : Hid (forwardQ bs = ([], 5)) := by show _ = _; rw [hQ3.out, hFl, if_pos h65]
        have d65 : decide ((65536 : Int) < ((n4 + n2 : Nat) : Int)) = true := by simp; omega
        have d65' : decide ((65536 : Int) < (n4 : Int) + (n2 : Int)) = true := by simp; omega
        clear hFl h65
        go_wp2_with (at_builtin; refine wpList_app (enc := encB) rfl (.tmp 40) (.tmp 41) rfl uB infoB encB_one rfl rfl ho4 hB4h.out A2 n2 c2 (codeL ws bs) 0 HxL.out hx4.2.2 rfl m1.out.1 m1.out.2 ?_; intro A7 c7 W7 ho7 hb7 hg7)
        go_ret2
        rw [hQ4.out]
        refine RetBytes.err rfl ?_
        exact hb1.trans ((hb2.trans ((hb4.mono hb2.size).trans (hb7.mono (Nat.le_trans hb2.size hB4)))).mono hb1.size)
      have hQ4 : Hid (forwardQ bs = (forwardL bs, 0)) := by show _ = _; rw [hQ3.out, hFl, if_neg h65]
      have d65 : decide ((65536 : Int) < ((n4 + n2 : Nat) : Int)) = false := by simp; omega
      have d65' : decide ((65536 : Int) < (n4 : Int) + (n2 : Int)) = false := by simp; omega
      clear hFl h65
      go_wp2_with (at_builtin; refine wpList_app (enc := encB) rfl (.tmp 40) (.tmp 41) rfl uB infoB encB_one rfl rfl ho4 hB4h.out A2 n2 c2 (codeL ws bs) 0 HxL.out hx4.2.2 rfl m1.out.1 m1.out.2 ?_; intro A7 c7 W7 ho7 hb7 hg7)
      go_ret2
      rw [hQ4.out]
      show RetBytes _ (forwardL bs) _ _ _
      rw [hF.out, Hn1.out]
      rw [hnx.out] at ho7
      refine RetBytes.mk rfl (Own.bytesBDic ho7) ?_
      exact hb1.trans ((hb2.trans ((hb4.mono hb2.size).trans (hb7.mono (Nat.le_trans hb2.size hB4)))).mono hb1.size)
theorem forwardP_long (A : Option Addr) (c m : Nat) (w : World) (hm : 65536 < m) (hm2 : m ≤ 1000000000) :
    Calls Tryz.prog 63 #[.slice A m c] w (RetBytes w [] 5) := by
  have Hcal := Lib.hid (learnP_long A c m 64 w hm hm2)
  go_enter Tryz.func63, Tryz.ntmps63
  go_wp2_with fail
  refine Hcal.out.mono ?_
  rintro e w1 ⟨A1, n1, c1, rfl, hs1, hb1⟩
  go_wp2_with fail
  go_ret2
  exact RetBytes.err rfl hb1
theorem forwardQ_any (A : Option Addr) (c m : Nat) (bs : List UInt8) (w : World) (hy : Bytes w A m c bs) (hm : m ≤ 1000000000) :
    Calls Tryz.prog 63 #[.slice A m c] w (RetBytes w (forwardQ bs).1 ((forwardQ bs).2 : Nat)) := by
  by_cases h : 65536 < m
  · have e : forwardQ bs = ([], 5) := by unfold forwardQ; rw [hy.1, if_pos h]
    rw [e]
    exact forwardP_long A c m w h hm
  · exact forwardP_gen A c m bs w hy (by omega)
theorem forwardQ_length (bs : List UInt8) : (forwardQ bs).1.length ≤ 65536 := by
  unfold forwardQ
  split
  · exact Nat.zero_le _
  · split
    · exact Nat.zero_le _
    · split
      · exact Nat.zero_le _
      · rename_i h; show (forwardL bs).length ≤ _; omega


end Go.Proofs.YtckkmafppfcecaaGreatDoor.Dic
