/- IsWord, Few and Words of the reference. -/
import Derived.Test.YtdebhdopginllaaDc
namespace Go.Proofs.Ytdebhdopginllaa
open Go.RowKit Go.Proofs
set_option linter.unusedVariables false

/-- a conversion []byte(s), s no constant. -/
theorem conv_bytes {P : Program} (src dst e : TypeId) (hs : P.underlying src = some .string) (hd : P.underlying dst = some (.slice e)) (he : P.underlying e = some (.int .u8)) (w : World) (s : List UInt8) :
    ∃ c w1, (convert src dst (.string (strB s))).run P w = .ok (.slice (some ⟨w.heap.size, 0, none⟩) s.length c) w1 ∧ Bytes w1 (some ⟨w.heap.size, 0, none⟩) s.length c s ∧ Below w.heap.size w w1 := by
  refine ⟨_, _, by rw [Lib.run_convert_string_bytes w src dst e (strB s) hs hd he, strB_size], ?_, ?_⟩
  · refine ⟨rfl, grownCap_ge _ _ _ _, fun hn => ⟨w.heap.size, 0, rfl, by rw [Lib.bytesWorld_size]; omega, fun i hi => ?_⟩⟩
    rw [Nat.zero_add, Lib.bytesWorld_cell _ _ _ _ (by rw [strB_size]; exact hi)]
    rfl
  · exact ⟨rfl, rfl, rfl, by rw [Lib.bytesWorld_size]; omega, fun k hk => Lib.bytesWorld_at_old _ _ _ k hk⟩

def isWordB (s : List UInt8) : Bool := decide (2 ≤ s.length) && (decide (s.length ≤ 32) && decide (runL s = s.length))

set_option maxHeartbeats 400000 in
theorem isWord_any (s : List UInt8) (w : World) (hs : s.length ≤ 1000000000) :
    Calls Try.prog 40 #[.string (strB s)] w fun e w' => e = .returned (.bool (isWordB s)) ∧ Below w.heap.size w w' := by
  have hz := strB_size s
  by_cases h1 : 2 ≤ s.length
  · by_cases h2 : s.length ≤ 32
    · have d1 : decide ((2 : Int) ≤ (s.length : Int)) = true := by simp; omega
      have d2 : decide ((s.length : Int) ≤ 32) = true := by simp; omega
      obtain ⟨c, w1, hr, hb, hbel⟩ := conv_bytes (P := Try.prog) 9 22 5 uS uB u8 w s
      have hcal := run_any _ _ _ 0 _ _ hb (by omega) (by omega)
      have Hcal := Lib.hid hcal; clear hcal
      have hfin : Hid ((((runL s : Nat) : Int) == (s.length : Int)) = isWordB s) := by
        show _ = _
        simp only [isWordB, decide_eq_true h1, decide_eq_true h2, Bool.true_and]
        by_cases h : runL s = s.length
        · rw [h]; simp
        · rw [decide_eq_false h]; simp; omega
      go_enter Try.func40, Try.ntmps40
      go_wp2_with fail
      refine Hcal.out.mono ?_
      rintro e w2 ⟨rfl, hw2⟩
      obtain rfl : w1 = w2 := hw2.symm
      go_wp2_with fail
      go_ret
      exact ⟨ret_bool hfin.out, hbel⟩
    · have d1 : decide ((2 : Int) ≤ (s.length : Int)) = true := by simp; omega
      have d2 : decide ((s.length : Int) ≤ 32) = false := by simp; omega
      have hfin : Hid (isWordB s = false) := by show _ = _; simp [isWordB, h2]
      go_enter Try.func40, Try.ntmps40
      go_wp2_with fail
      go_ret
      exact ⟨ret_bool hfin.out.symm, Below.refl _ _⟩
  · have d1 : decide ((2 : Int) ≤ (s.length : Int)) = false := by simp; omega
    have hfin : Hid (isWordB s = false) := by show _ = _; simp [isWordB, h1]
    go_enter Try.func40, Try.ntmps40
    go_wp2_with fail
    go_ret
    exact ⟨ret_bool hfin.out.symm, Below.refl _ _⟩

/-- the words among the pieces: for each start, whether it is a word. -/
def wordsTo (bs : List UInt8) : Nat → List (List UInt8)
  | 0 => []
  | k + 1 => wordsTo bs k ++ if wdP bs k then [pcP bs k] else []
def wordsL (bs : List UInt8) : List (List UInt8) := wordsTo bs (piecesL bs).length
end Go.Proofs.Ytdebhdopginllaa
