/- strings.IndexAny at the gaps for strings of at most 8 bytes, whatever the bytes; the assembler's split, whole. -/
import Derived.Test.YtlbhggjkcfcobaaDoorAi
import Derived.Lib.OthersKept
namespace Go.Proofs.YtlbhggjkcfcobaaDoor
open Go.RowKit Go.Proofs
set_option linter.unusedVariables false

theorem gapIx_at : ∀ (x : List UInt8) (p : Nat), p < x.length → (∀ j, j < p → gapB (x.getD j 0) = false) → gapB (x.getD p 0) = true → gapIx x = (p : Int)
  | [], p, h, _, _ => by simp at h
  | b :: l, 0, _, _, hg => by
    have hb : gapB b = true := by simpa using hg
    unfold gapIx
    simp [hb]
  | b :: l, p + 1, h, hj, hg => by
    have hb : gapB b = false := by simpa using hj 0 (by omega)
    have ih := gapIx_at l p (by simpa using h) (fun j hjp => by have := hj (j + 1) (by omega); simpa using this) (by simpa using hg)
    unfold gapIx at ih ⊢
    by_cases ha : l.any gapB = true
    · rw [if_pos ha] at ih
      rw [if_pos (by simp [ha]), List.takeWhile_cons_of_pos (by simp [hb])]
      simp only [List.length_cons]
      omega
    · rw [if_neg ha] at ih; omega
theorem gapIx_none {x : List UInt8} (h : ∀ j, j < x.length → gapB (x.getD j 0) = false) : gapIx x = -1 := by
  unfold gapIx
  rw [if_neg]
  intro ha
  rw [List.any_eq_true] at ha
  obtain ⟨b, hb, hg⟩ := ha
  obtain ⟨k, hk, rfl⟩ := List.getElem_of_mem hb
  have := h k hk
  rw [List.getD_eq_getElem?_getD, List.getElem?_eq_getElem hk] at this
  rw [Option.getD_some, hg] at this
  cases this
theorem gapB_hi {b : UInt8} (h : 128 ≤ b.toNat) : gapB b = false := by
  have : ∀ c : Fin 256, 128 ≤ c.val → gapB (UInt8.ofNat c.val) = false := by decide +kernel
  have := this ⟨b.toNat, b.toNat_lt⟩ h
  simpa using this
theorem shouldUse_any (n : Nat) (w : World) (h : n ≤ 8) : Calls Tryd.prog 99 #[.int .i64 (n : Int)] w fun e w' => e = .returned (.bool false) ∧ w' = w := by
  have d : decide ((8 : Int) < (n : Int)) = false := by simp; omega
  have d' : decide (8 < n) = false := by simp; omega
  go_enter Tryd.func99, Tryd.ntmps99
  go_wp2_with fail
  go_ret
  exact ⟨rfl, rfl⟩
theorem gaps_contains (b : UInt8) : ([32, 9, 10, 59] : List UInt8).contains b = gapB b := by
  have : ∀ c : Fin 256, ([32, 9, 10, 59] : List UInt8).contains (UInt8.ofNat c.val) = gapB (UInt8.ofNat c.val) := by decide +kernel
  have := this ⟨b.toNat, b.toNat_lt⟩
  simpa using this
theorem strB_at (x : List UInt8) {p : Nat} (h : p < (strB x).size) : (strB x)[p]'h = x.getD p 0 := by
  have h' : p < x.length := h
  rw [List.getD_eq_getElem?_getD, List.getElem?_eq_getElem h']
  rfl
set_option maxRecDepth 100000 in
set_option maxHeartbeats 4000000 in
theorem ixShort (x : List UInt8) (w : World) (h8 : x.length ≤ 8) : Calls Tryd.prog 67 #[.string (strB x), .string ⟨#[32, 9, 10, 59]⟩] w fun e w' => e = .returned (.int .i64 (gapIx x)) ∧ Below w.heap.size w w' := by
  have hsz := strB_size' x
  have HS := Lib.hid (fun W => shouldUse_any x.length W h8)
  obtain ⟨z, hz⟩ : ∃ z, z = gapIx x := ⟨_, rfl⟩
  rw [← hz]
  have HZ := Lib.hid hz
  clear hz
  have hk0 : (w.iter (strB x) 0).heap[w.heap.size]? = some (.stringIter (strB x) 0) := World.iter_heap _ _ _
  have hb0 : Below w.heap.size w (w.iter (strB x) 0) := balloc (Below.refl _ _) _
  have HK0 := Lib.hid hk0
  have HB0 := Lib.hid hb0
  clear hk0 hb0
  go_enter Tryd.func67, Tryd.ntmps67
  go_wp2_with fail
  refine (HS.out _).mono ?_
  rintro e w1 ⟨rfl, hw1⟩
  obtain rfl : w = w1 := hw1.symm
  go_wp2_with fail
  go_loopw [9, 10] (fun _ _ wr => ∃ pos : Nat, pos ≤ x.length ∧ wr.heap[w.heap.size]? = some (.stringIter (strB x) pos) ∧ Below w.heap.size w wr ∧ Hid (∀ j, j < pos → gapB (x.getD j 0) = false)) (fun _ _ wr => x.length - wr.iterPos w.heap.size)
  case atStart => exact ⟨0, Nat.zero_le _, HK0.out, HB0.out, fun j hj => absurd hj (by omega)⟩
  case round =>
    clear HS HK0 HB0
    obtain ⟨pos, hp, hk, hb, HJ⟩ := hrel
    have hmu : wr.iterPos w.heap.size = pos := by simp [World.iterPos, hk]
    by_cases hlt : pos < x.length
    · have hlt' : pos < (strB x).size := hlt
      have hat := strB_at x hlt'
      by_cases h128 : (x.getD pos 0).toNat < 128
      · have hnext : ∀ ty, (Instr.next (.pointer (some ⟨w.heap.size, 0, none⟩)) true ty).run Tryd.prog wr = _ := fun ty => Lib.run_next_ascii_at wr w.heap.size (strB x) pos ty hk hlt' (by rw [hat]; exact h128)
        have hk1 := Lib.iterAt_heap wr w.heap.size (strB x) pos (pos + 1) hk
        have hb1 : Below w.heap.size w (wr.iterAt w.heap.size (strB x) (pos + 1)) := Lib.below_iterAt hb (Nat.le_refl _) (strB x) (pos + 1)
        generalize wr.iterAt w.heap.size (strB x) (pos + 1) = W1 at hnext hk1 hb1
        rw [hat] at hnext
        have HA := Lib.hid (fun h => gapIx_at x pos hlt HJ.out h)
        have HN : Hid (gapB (x.getD pos 0) = false → ∀ j, j < pos + 1 → gapB (x.getD j 0) = false) := fun h j hj => by
          rcases Nat.lt_or_ge j pos with h1 | h1
          · exact HJ.out j h1
          · obtain rfl : j = pos := by omega
            exact h
        obtain ⟨b, hbe⟩ : ∃ b, b = x.getD pos 0 := ⟨_, rfl⟩
        rw [← hbe] at hnext h128 HA HN
        have H1 := Tryd.strings_IndexRune_ascii ⟨#[32, 9, 10, 59]⟩ (b.toNat : Int) W1 (by omega) (by omega)
        rw [show ((b.toNat : Int)).toNat.toUInt8 = b by simp] at H1
        have hm := indexByte_mem [32, 9, 10, 59] b
        rw [gaps_contains] at hm
        have H1' : Calls Tryd.prog 98 #[.string ⟨#[32, 9, 10, 59]⟩, .int .i32 (b.toNat : Int)] W1 fun e w' => e = .returned (.int .i64 (Lib.indexByte [32, 9, 10, 59] b)) ∧ w' = W1 := H1
        obtain ⟨q, hq⟩ : ∃ q, q = Lib.indexByte [32, 9, 10, 59] b := ⟨_, rfl⟩
        rw [← hq] at H1' hm
        have HR := Lib.hid H1'
        clear hbe hq hat H1 H1' HJ hb hk
        cases hg : gapB b with
        | true =>
          rw [hg] at hm
          have HA' := Lib.hid (HA.out hg)
          have dq : decide (0 ≤ q) = true := by
            have : ¬ q < 0 := by simpa using hm
            exact decide_eq_true (by omega)
          clear HA HN hg hm
          go_wp2_with fail
          refine HR.out.mono ?_
          rintro e w2 ⟨rfl, hw2⟩
          obtain rfl : W1 = w2 := hw2.symm
          go_wp2_with fail
          go_ret
          exact ⟨ret_int (by rw [HZ.out, HA'.out]), hb1⟩
        | false =>
          rw [hg] at hm
          have HN' := Lib.hid (HN.out hg)
          have dq : decide (0 ≤ q) = false := by
            have : q < 0 := by simpa using hm
            exact decide_eq_false (by omega)
          clear HA HN hg hm
          go_wp2_with fail
          refine HR.out.mono ?_
          rintro e w2 ⟨rfl, hw2⟩
          obtain rfl : W1 = w2 := hw2.symm
          go_wp2_with fail
          go_roundw
          case rel => exact ⟨pos + 1, by omega, hk1, hb1, HN'.out⟩
          case measure =>
            have : W1.iterPos w.heap.size = pos + 1 := by simp [World.iterPos, hk1]
            rw [this, hmu]; omega
      · have hdec := decode_hi (strB x) pos hlt' (by
          have : (strB x).get! pos = (strB x)[pos]'hlt' := by
            have := get_at (strB x) pos hlt'
            simpa using this
          rw [this, hat]; omega)
        have hnext : ∀ ty, (Instr.next (.pointer (some ⟨w.heap.size, 0, none⟩)) true ty).run Tryd.prog wr = _ := fun ty => Lib.run_next_any_at wr w.heap.size (strB x) pos ty hk hlt'
        obtain ⟨r, hr⟩ : ∃ r, r = (Utf8.decode (strB x) pos).1 := ⟨_, rfl⟩
        obtain ⟨k, hkk⟩ : ∃ k, k = (Utf8.decode (strB x) pos).2 := ⟨_, rfl⟩
        rw [← hr, ← hkk] at hdec hnext
        have hk1 := Lib.iterAt_heap wr w.heap.size (strB x) pos (pos + k) hk
        have hb1 : Below w.heap.size w (wr.iterAt w.heap.size (strB x) (pos + k)) := Lib.below_iterAt hb (Nat.le_refl _) (strB x) (pos + k)
        generalize wr.iterAt w.heap.size (strB x) (pos + k) = W1 at hnext hk1 hb1
        obtain ⟨d1, d2, d3, d4⟩ := hdec
        have HN : Hid (∀ j, j < pos + k → gapB (x.getD j 0) = false) := fun j hj => by
          rcases Nat.lt_or_ge j pos with h1 | h1
          · exact HJ.out j h1
          · have hjl : j < (strB x).size := Nat.lt_of_lt_of_le hj d3
            have h5 := d4 j h1 hj
            have : (strB x).get! j = (strB x)[j]'hjl := by
              have := get_at (strB x) j hjl
              simpa using this
            rw [this, strB_at x hjl] at h5
            exact gapB_hi h5
        have hlk : pos + k ≤ x.length := d3
        have HR := Lib.hid (indexRune_hi [32, 9, 10, 59] rfl (by decide) r d1 W1)
        have hlt1 : w.heap.size < W1.heap.size := by
          rcases Nat.lt_or_ge w.heap.size W1.heap.size with h | h
          · exact h
          · rw [Array.getElem?_eq_none h] at hk1; cases hk1
        have hz4 : Hid ((⟨#[32, 9, 10, 59]⟩ : ByteArray) = strB [32, 9, 10, 59]) := rfl
        rw [← hz4.out] at HR
        clear hr hkk d1 d4 HJ hb hk hat h128 hz4
        go_wp2_with fail
        refine HR.out.mono ?_
        rintro e w2 ⟨rfl, hb2⟩
        have hk2 : w2.heap[w.heap.size]? = some (.stringIter (strB x) (pos + k)) := (hb2.block _ hlt1).trans hk1
        have hb3 := hb1.trans (hb2.mono hb1.size)
        go_wp2_with fail
        go_roundw
        case rel => exact ⟨pos + k, hlk, hk2, hb3, HN.out⟩
        case measure =>
          have : w2.iterPos w.heap.size = pos + k := by simp [World.iterPos, hk2]
          rw [this, hmu]; omega
    · obtain rfl : pos = x.length := by omega
      have hnext : ∀ ty, (Instr.next (.pointer (some ⟨w.heap.size, 0, none⟩)) true ty).run Tryd.prog wr = _ := fun ty => Lib.run_next_end_at wr w.heap.size (strB x) x.length ty hk (by show ¬ x.length < x.length; omega)
      have HA := Lib.hid (gapIx_none HJ.out)
      clear HJ
      go_wp2_with fail
      go_ret
      exact ⟨ret_int (by rw [HZ.out, HA.out]), hb⟩
theorem ixAny : IxAny := fun x W hx => by
  rcases Nat.lt_or_ge 8 x.length with h | h
  · exact ixLong x W h hx
  · exact ixShort x W h
end Go.Proofs.YtlbhggjkcfcobaaDoor
