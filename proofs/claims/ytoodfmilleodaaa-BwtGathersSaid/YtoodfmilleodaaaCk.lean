/- bytes.IndexByte; the walk of the law BwtGathers. -/
import Derived.Test.YtoodfmilleodaaaCj
import Derived.Lib.Bytealg
namespace Go.Proofs.Ytoodfmilleodaaa
open Go.RowKit Go.Proofs Go.Sort
set_option linter.unusedVariables false

theorem run_loadB {P : Program} {w : World} : ∀ (l : List UInt8) (a : Addr) (acc : List UInt8), (∀ j x, l[j]? = some x → w.cell? (a.add j) = some (.int .u8 x.toNat)) →
    (Extern.Bytes.loadBytes a l.length (strB acc)).run P w = .ok (strB (acc ++ l)) w
  | [], a, acc, _ => by simp [Extern.Bytes.loadBytes]
  | x :: l, a, acc, h => by
    have h0 := h 0 x rfl
    rw [show a.add 0 = a by simp [Addr.add]] at h0
    have ih := run_loadB (P := P) l (a.add 1) (acc ++ [x]) (fun j y hj => by
      have := h (j + 1) y (by simpa using hj)
      have e : (a.add 1).add j = a.add (j + 1) := by unfold Addr.add; by_cases hj : j = 0 <;> simp [hj, Nat.add_assoc, Nat.add_comm 1 j]
      rw [e]; exact this)
    have e : (strB acc).push (x.toNat : Int).toNat.toUInt8 = strB (acc ++ [x]) := by simp [strB, ByteArray.push]
    simp only [List.length_cons, Extern.Bytes.loadBytes, Sem.run_bind, run_load, h0, Result.andThen, e, ih]
    simp
theorem Bytes.of {P : Program} {w : World} {A : Option Addr} {n c : Nat} {bs : List UInt8} (hb : Bytes w A n c bs) : (Extern.Bytes.bytesOf (.slice A n c)).run P w = .ok (strB bs) w := by
  obtain ⟨hl, hnc, hcell⟩ := hb
  subst hl
  cases A with
  | none =>
    have : bs = [] := by
      cases bs with
      | nil => rfl
      | cons x xs => obtain ⟨b, off, h, _⟩ := hcell (by simp); cases h
    subst this
    rfl
  | some a =>
    have := run_loadB (P := P) (w := w) bs a [] (fun j x hj => by
      have hjl : j < bs.length := (List.getElem?_eq_some_iff.1 hj).1
      obtain ⟨b, off, h, _, hc⟩ := hcell (by omega)
      injection h with h
      subst h
      rw [addr_add, hc j hjl]
      simp [gb, List.getD, hj])
    rw [List.nil_append] at this
    show (Extern.Bytes.loadBytes a bs.length (strB [])).run P w = _
    exact this
theorem run_ixB {w : World} {A : Option Addr} {n c : Nat} {bs : List UInt8} (hx : Bytes w A n c bs) :
    (callFunc 53 #[.slice A n c, .int .u8 0]).run Try.prog w = .ok (.value (.int .i64 (Lib.indexByte bs 0))) w := by
  rw [run_callFunc_extern Try.func53 (by kernel_rfl) (by kernel_rfl) (by kernel_rfl) (e := Extern.BytealgIndexByte.indexByte) (by kernel_rfl)]
  have h2 := Lib.run_indexByteString (P := Try.prog) (strB bs) 0 w
  have h1 : (Extern.BytealgIndexByte.indexByte #[.slice A n c, .int .u8 0]).run Try.prog w = (Extern.BytealgIndexByte.indexByte #[.string (strB bs), .int .u8 0]).run Try.prog w := by
    change Sem.run Try.prog (do
      let b ← Extern.Bytes.bytesOf (.slice A n c)
      let c ← Extern.Bytes.asByte (.int .u8 0)
      match (List.range b.size).find? fun i => b[i]! == c with
      | some i => pure (goInt i)
      | none => pure (goInt (-1))) w = Sem.run Try.prog (do
      let b ← Extern.Bytes.bytesOf (.string (strB bs))
      let c ← Extern.Bytes.asByte (.int .u8 0)
      match (List.range b.size).find? fun i => b[i]! == c with
      | some i => pure (goInt i)
      | none => pure (goInt (-1))) w
    rw [Sem.run_bind, Bytes.of hx]
    rfl
  rw [h1, h2]
  rfl
theorem ixB_none : ∀ {l : List UInt8}, Lib.indexByte l 0 < 0 → ∀ x ∈ l, x ≠ 0
  | [], _, x, hx => by simp at hx
  | b :: l, h, x, hx => by
    unfold Lib.indexByte at h
    by_cases hb : b = 0
    · rw [if_pos (by simpa using hb)] at h; omega
    · rw [if_neg (by simpa using hb)] at h
      have hl : Lib.indexByte l 0 < 0 := by
        by_cases h2 : Lib.indexByte l 0 = -1
        · omega
        · rw [if_neg (by simpa using h2)] at h; have := Lib.indexByte_ge l 0; omega
      rcases List.mem_cons.1 hx with rfl | hx
      · exact hb
      · exact ixB_none hl x hx
theorem indexByte_any (A : Option Addr) (n c : Nat) (bs : List UInt8) (w : World) (hx : Bytes w A n c bs) :
    Calls Try.prog 32 #[.slice A n c, .int .u8 0] w fun e w' => e = .returned (.int .i64 (Lib.indexByte bs 0)) ∧ w' = w := by
  have hr := run_ixB hx
  go_enter Try.func32, Try.ntmps32
  go_wp2_with fail
  go_ret
  exact ⟨rfl, rfl⟩
theorem rn_next' (x : List UInt8) (k : Nat) (h1 : k + 1 < x.length) : (rn x (k + 1) : Int) = rn x k + (if (gb x (k + 1) != gb x k) = true then 1 else 0 : Int) := by
  rw [rn]
  have e : (gb x (k + 1) != gb x k) = true ↔ x.getD (k + 1) 0 ≠ x.getD k 0 := by
    unfold gb
    rw [bne_iff_ne]
    constructor
    · intro h e; exact h (by rw [e])
    · intro h e; exact h (UInt8.toNat_inj.1 (by omega))
  by_cases h : x.getD (k + 1) 0 ≠ x.getD k 0
  · rw [if_pos h, if_pos (e.2 h)]; push_cast; rfl
  · rw [if_neg h, if_neg (fun hh => h (e.1 hh))]; push_cast; rfl

set_option maxRecDepth 100000 in
set_option maxHeartbeats 2000000 in
theorem bwtGathers_any (A : Option Addr) (n c X : Nat) (v : List UInt8) (w : World) (hx : Bytes w A n c v) (hX : X ≤ 255) :
    Calls Try.prog 10 #[.slice A n c, .int .u8 (X : Int)] w fun e w' => e = .returned (.bool true) ∧ Below w.heap.size w w' := by
  have Hn := Lib.hid hx.1
  by_cases h1 : 12 < n
  · have d1 : decide ((12 : Int) < (n : Int)) = true := by simp; omega
    have d1' : decide (12 < n) = true := by simp; omega
    go_enter Try.func10, Try.ntmps10
    go_wp2_with fail
    refine (awake_any _).mono ?_
    rintro e w1 ⟨rfl, hb1⟩
    go_wp2_with fail
    go_ret
    exact ⟨rfl, hb1⟩
  · have d1 : decide ((12 : Int) < (n : Int)) = false := by simp; omega
    have d1' : decide (12 < n) = false := by simp; omega
    have H1 := Lib.hid (indexByte_any A n c v w hx)
    have hix : Hid (Lib.indexByte v 0 < 0 → ∀ x ∈ v, x ≠ 0) := ixB_none
    obtain ⟨z, hz⟩ : ∃ z, z = Lib.indexByte v 0 := ⟨_, rfl⟩
    rw [← hz] at H1 hix
    clear hz
    by_cases hz0 : 0 ≤ z
    · have d2 : decide ((0 : Int) ≤ z) = true := by simpa using hz0
      go_enter Try.func10, Try.ntmps10
      go_wp2_with fail
      refine H1.out.mono ?_
      rintro e w1 ⟨rfl, hw1⟩
      obtain rfl : w = w1 := hw1.symm
      clear H1
      go_wp2_with fail
      refine (awake_any _).mono ?_
      rintro e w1 ⟨rfl, hb1⟩
      go_wp2_with fail
      go_ret
      exact ⟨rfl, hb1⟩
    · have d2 : decide ((0 : Int) ≤ z) = false := by simpa using hz0
      have hv := Lib.hid (hix.out (by omega))
      clear hix hz0
      have H2 := Lib.hid (clone_any A n c v w hx (by omega))
      have hrX : (X : Int).tmod 12 = ((X % 12 : Nat) : Int) := rem_nat X 11
      have hj : X % 12 < 12 := Nat.mod_lt X (by omega)
      obtain ⟨j, hje⟩ : ∃ j, j = X % 12 := ⟨_, rfl⟩
      rw [← hje] at hrX hj
      clear hje
      go_enter Try.func10, Try.ntmps10
      go_wp2_with fail
      refine H1.out.mono ?_
      rintro e w1 ⟨rfl, hw1⟩
      obtain rfl : w = w1 := hw1.symm
      clear H1
      go_wp2_with fail
      refine H2.out.mono ?_
      rintro e w2 ⟨A2, n2, c2, rfl, ho2, hb2⟩
      have hn2 : n2 = n := by rw [← ho2.bytesB.1, hx.1]
      subst hn2
      have hvv : Hid (encB 0 = .int .u8 0) := rfl
      have m1 : Hid (n2 + 1 ≤ maxLen ∧ (n2 + 1) * 1 ≤ 140737488355328) := ⟨by simp [maxLen]; omega, by omega⟩
      have hB2 := hb2.size
      clear H2
      go_wp2_with (at_builtin; refine wpList_pushv (enc := encB) rfl (.tmp 21) (.tmp 22) rfl uB infoB encB_one rfl rfl ho2 hB2 0 _ hvv.out rfl m1.out.1 m1.out.2 ?_; intro A7 c7 W7 ho7 hb7)
      have k7 := ho7.bytesB
      have b7 := hb2.trans hb7
      have H3 := Lib.hid (repeat_any A7 (n2 + 1) c7 (1 + j) (v ++ [0]) W7 k7 (by omega) (by omega) (by omega) (by omega))
      have Hn7 := Lib.hid k7.1
      clear hvv m1 hB2 ho2 ho7 hb7 hb2 k7 hx
      go_wp2_with fail
      have e1 : ((1 + j : Nat) : Int) = 1 + (j : Int) := by push_cast; rfl
      rw [e1] at H3
      refine H3.out.mono ?_
      rintro e w8 ⟨A8, c8, rfl, k8, hb8⟩
      have b8 := b7.trans (hb8.mono b7.size)
      have hnn : (n2 + 1) * (1 + j) ≤ 13 * 12 := Nat.mul_le_mul (by omega) (by omega)
      have hnn0 : 0 < (n2 + 1) * (1 + j) := Nat.mul_pos (by omega) (by omega)
      obtain ⟨b, hbe⟩ : ∃ b, b = repL (v ++ [0]) (1 + j) := ⟨_, rfl⟩
      have Hbe := Lib.hid hbe
      obtain ⟨N, hN⟩ : ∃ N, N = (n2 + 1) * (1 + j) := ⟨_, rfl⟩
      rw [← hbe, ← hN] at k8
      rw [← hN] at hnn hnn0 ⊢
      clear hbe hN e1 H3
      have HN := Lib.hid k8.1
      have h9 := forward_any A8 N c8 b w8 k8 (by omega)
      rw [fwdRes_short (by rw [HN.out]; omega)] at h9
      have H9 := Lib.hid h9; clear h9
      go_wp2_with fail
      refine H9.out.mono ?_
      rintro e w9 ⟨A9, n9, c9, rfl, k9, hb9⟩
      have hn9 := fwdL_length b
      rw [HN.out] at hn9
      obtain rfl : n9 = N := by rw [← k9.1]; exact hn9
      have b9 := b8.trans (hb9.mono b8.size)
      have hfew : rn (fwdL b) (n9 - 1) ≤ 2 * (n2 + 1) := by
        have h := runs_few (v := v) (m := 1 + j) (b := b) hv.out Hbe.out (by rw [HN.out]; exact hnn0)
        rw [HN.out, Hn.out] at h
        exact h
      have HL := Lib.hid hn9
      have HF := Lib.hid hfew
      clear H9 hn9 hfew
      have q1 : ((n9 : Int) != (n9 : Int)) = false := by simp
      go_wp2_with fail
      go_loopw [9, 10] (fun r i wr => ∃ (k : Nat) (q : Nat), k + 1 ≤ n9 ∧ r = .int .i64 (rn (fwdL b) k : Int) ∧ i = .int .i64 ((k : Int) + 1) ∧ wr = w9.drewN q) (fun _ i _ => n9 - (intOf i).toNat)
      case atStart => exact ⟨0, 0, by omega, rfl, rfl, rfl⟩
      case round =>
        obtain ⟨k, q, hk, rfl, rfl, rfl⟩ := hrel
        by_cases hlt : k + 1 < n9
        · have e0 : decide ((k : Int) + 1 < (n9 : Int)) = true := by simp; omega
          obtain ⟨b5, off5, rfl, hb5, hc5⟩ := k9.get (k := k) (by omega)
          have c5 := hc5 k (by omega)
          have c6 := hc5 (k + 1) (by omega)
          clear hc5
          have hnx := rn_next' (fwdL b) k (by rw [HL.out]; exact hlt)
          have hbd := rn_le (fwdL b) k
          have i1 : 0 ≤ (k : Int) + 1 := by omega
          have i2 : ((k : Int) + 1).toNat = k + 1 := by omega
          have i3 : (k : Int) + 1 < (n9 : Int) := by omega
          have i4 : (k : Int) < (n9 : Int) := by omega
          have i5 : k < n9 := by omega
          cases hbg : (gb (fwdL b) (k + 1) != gb (fwdL b) k) with
          | true =>
            rw [hbg, if_pos rfl] at hnx
            have Hnx := Lib.hid hnx
            clear hnx
            go_wp2_with fail
            go_quiet (fail)
            go_wp2_with fail
            go_roundw
            case rel => exact ⟨k + 1, _, by omega, by rw [Hnx.out], by go_num, rfl⟩
            case measure => simp [intOf]; omega
          | false =>
            rw [hbg, if_neg (by simp)] at hnx
            have Hnx := Lib.hid hnx
            clear hnx
            go_wp2_with fail
            go_quiet (fail)
            go_wp2_with fail
            go_roundw
            case rel => exact ⟨k + 1, _, by omega, by rw [Hnx.out, Int.add_zero], by go_num, rfl⟩
            case measure => simp [intOf]; omega
        · have e0 : decide ((k : Int) + 1 < (n9 : Int)) = false := by simp; omega
          obtain rfl : k = n9 - 1 := by omega
          have q2 : decide ((rn (fwdL b) (n9 - 1) : Int) ≤ 2 * ((n2 : Int) + 1)) = true := by have := HF.out; simp; omega
          go_wp2_with fail
          refine (awake_any _).mono ?_
          rintro e wz ⟨rfl, hbz⟩
          go_wp2_with fail
          go_ret
          have b10 := bdrew b9 q
          exact ⟨rfl, b10.trans (hbz.mono b10.size)⟩
end Go.Proofs.Ytoodfmilleodaaa
