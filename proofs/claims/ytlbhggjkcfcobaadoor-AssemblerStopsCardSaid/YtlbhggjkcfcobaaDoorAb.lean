/- Contracts of the assembler's leaves: demand, only, strings.IndexByte. -/
import Derived.Test.YtlbhggjkcfcobaaDoorAa
namespace Go.Proofs.YtlbhggjkcfcobaaDoor
open Go.RowKit Go.Proofs
set_option linter.unusedVariables false

theorem strB_size' (x : List UInt8) : (strB x).size = x.length := rfl
def failV (at_ e : Int) : Value := .iface 91 (.agg #[.int .i64 at_, .int .i64 e])
/-- what a demand that fails leaves. -/
def Fails (w : World) (at_ e : Int) (en : Ending) (w' : World) : Prop := en = .panicked [{ v := failV at_ e, recovered := false }] ∧ Below w.heap.size w w'
theorem demand_ok (x : List UInt8) (z e : Int) (w : World) : Calls Tryd.prog 74 #[.agg #[.string (strB x), .int .i64 z], .bool true, .int .i64 e] w fun en w' => en = .returned (.tuple #[]) ∧ Below w.heap.size w w' := by
  go_enter Tryd.func74, Tryd.ntmps74
  go_wp2_with fail
  exact ⟨rfl, _, results_none rfl _ _ _, rfl, balloc (Below.refl _ _) _⟩
theorem demand_bad (x : List UInt8) (z e : Int) (w : World) : Calls Tryd.prog 74 #[.agg #[.string (strB x), .int .i64 z], .bool false, .int .i64 e] w (Fails w z e) := by
  go_enter Tryd.func74, Tryd.ntmps74
  go_wp2_with fail
  exact ⟨rfl, rfl, balloc (Below.refl _ _) _⟩
theorem indexByteS_any (x : List UInt8) (c : UInt8) (w : World) : Calls Tryd.prog 66 #[.string (strB x), .int .u8 (c.toNat : Int)] w fun e w' => e = .returned (.int .i64 (Lib.indexByte x c)) ∧ w' = w := by
  have H := Tryd.stringslite_IndexByte (strB x) (c.toNat : Int) w
  rw [show ((c.toNat : Int)).toNat.toUInt8 = c by simp] at H
  have H' := Lib.hid H
  clear H
  go_enter Tryd.func66, Tryd.ntmps66
  go_wp2_with fail
  refine H'.out.mono ?_
  rintro e w1 ⟨rfl, hw1⟩
  obtain rfl : w = w1 := hw1.symm
  go_wp2_with fail
  go_ret
  exact ⟨rfl, rfl⟩
theorem indexByte_mem : ∀ (x : List UInt8) (c : UInt8), decide (Lib.indexByte x c < 0) = !(x.contains c)
  | [], c => rfl
  | b :: l, c => by
    have ih := indexByte_mem l c
    have hge : ∀ (x : List UInt8), -1 ≤ Lib.indexByte x c := fun x => by
      induction x with
      | nil => exact Int.le_refl _
      | cons b l ih => rw [Lib.indexByte]; split; omega; split <;> omega
    rw [Lib.indexByte]
    by_cases h : b = c
    · subst h; simp
    · rw [if_neg (by simpa using h)]
      have h2 : (b :: l).contains c = l.contains c := by simp [List.contains_cons, Ne.symm h, beq_iff_eq]
      rw [h2, ← ih]
      have := hge l
      split
      · rename_i h3
        have : Lib.indexByte l c = -1 := by simpa using h3
        rw [this]
      · rename_i h3
        have h4 : Lib.indexByte l c ≠ -1 := by simpa using h3
        rw [decide_eq_false (by omega), decide_eq_false (by omega)]
/-- all bytes of x are among cs. -/
def onlyL (x cs : List UInt8) : Bool := x.all fun b => cs.contains b
theorem run_index_strB (x : List UInt8) {k : Nat} (hk : k < x.length) (W : World) : (Instr.index 9 (.string (strB x)) (.int .i64 (k : Int))).run Tryd.prog W = .ok (.int .u8 (gb x k)) W := by
  rw [run_index_string W 9 (strB x) .i64 (k : Int) uS]
  have h2 : 0 ≤ (k : Int) ∧ (k : Int) < ((strB x).size : Int) := ⟨by omega, by rw [strB_size']; omega⟩
  rw [dif_pos h2]
  have h3 : ∀ (j : Nat) (hj : j < (strB x).size), (strB x)[j] = x.getD j 0 := fun j hj => by
    have hj' : j < x.length := hj
    rw [List.getD_eq_getElem?_getD, List.getElem?_eq_getElem hj']
    rfl
  rw [h3]
  rfl
theorem gb_in (x cs : List UInt8) {k : Nat} (hk : k < x.length) : gb x k = ((x.getD k 0).toNat : Int) := rfl
theorem onlyL_false {x cs : List UInt8} {k : Nat} (hk : k < x.length) (h : cs.contains (x.getD k 0) = false) : onlyL x cs = false := by
  unfold onlyL
  rw [List.all_eq_false]
  refine ⟨x.getD k 0, ?_, by simpa using h⟩
  rw [List.getD_eq_getElem?_getD, List.getElem?_eq_getElem hk]
  exact List.getElem_mem hk
theorem onlyL_true {x cs : List UInt8} (h : ∀ k, k < x.length → cs.contains (x.getD k 0) = true) : onlyL x cs = true := by
  unfold onlyL
  rw [List.all_eq_true]
  intro b hb
  obtain ⟨k, hk, rfl⟩ := List.getElem_of_mem hb
  have := h k hk
  rwa [List.getD_eq_getElem?_getD, List.getElem?_eq_getElem hk] at this
theorem only_any (x cs : List UInt8) (w : World) (hx : x.length ≤ 100000) : Calls Tryd.prog 119 #[.string (strB x), .string (strB cs)] w fun e w' => e = .returned (.bool (onlyL x cs)) ∧ w' = w := by
  have hs := strB_size' x
  have HI := Lib.hid (fun k hk W => run_index_strB x (k := k) hk W)
  obtain ⟨ob, hob⟩ : ∃ ob, ob = onlyL x cs := ⟨_, rfl⟩
  have HO := Lib.hid hob
  rw [← hob]
  clear hob
  go_enter Tryd.func119, Tryd.ntmps119
  go_wp2_with fail
  go_loop [8] (fun i => ∃ k : Nat, k ≤ x.length ∧ i = .int .i64 (k : Int) ∧ Hid (∀ j, j < k → cs.contains (x.getD j 0) = true)) (fun i => x.length - (intOf i).toNat)
  case atStart => exact ⟨0, Nat.zero_le _, rfl, fun j hj => absurd hj (by omega)⟩
  case round =>
    obtain ⟨k, hk, rfl, HK⟩ := hrel
    by_cases hlt : k < x.length
    · have e1 : decide ((k : Int) < (x.length : Int)) = true := by simp; omega
      have e1' : decide (k < x.length) = true := by simp; omega
      have hi := HI.out k hlt
      have H1 := Lib.hid (indexByteS_any cs (x.getD k 0) w)
      have hm := indexByte_mem cs (x.getD k 0)
      have HF := Lib.hid (fun h => onlyL_false (x := x) (cs := cs) hlt h)
      have HT : Hid (cs.contains (x.getD k 0) = true → ∀ j, j < k + 1 → cs.contains (x.getD j 0) = true) := fun h j hj => by
        rcases Nat.lt_or_ge j k with h1 | h1
        · exact HK.out j h1
        · obtain rfl : j = k := by omega
          exact h
      obtain ⟨z, hz⟩ : ∃ z, z = Lib.indexByte cs (x.getD k 0) := ⟨_, rfl⟩
      rw [← hz] at H1 hm
      clear hz HK
      unfold gb at hi
      obtain ⟨b, hb⟩ : ∃ b, b = x.getD k 0 := ⟨_, rfl⟩
      rw [← hb] at hi H1 hm HF HT
      clear hb
      cases hc : cs.contains b with
      | true =>
        rw [hc] at hm HT
        have HT' := Lib.hid (HT.out rfl)
        have hm : decide (z < 0) = false := hm
        clear hc HF HT
        go_wp2_with fail
        refine H1.out.mono ?_
        rintro e w1 ⟨rfl, hw1⟩
        obtain rfl : w = w1 := hw1.symm
        go_wp2_with fail
        go_round
        case rel => exact ⟨k + 1, by omega, by go_num, HT'.out⟩
        case measure => simp [intOf]; omega
      | false =>
        rw [hc] at hm HF
        have HF' := Lib.hid (HF.out rfl)
        have hm : decide (z < 0) = true := hm
        clear hc HF HT
        go_wp2_with fail
        refine H1.out.mono ?_
        rintro e w1 ⟨rfl, hw1⟩
        obtain rfl : w = w1 := hw1.symm
        go_wp2_with fail
        go_ret
        exact ⟨ret_bool (by rw [HO.out, HF'.out]), rfl⟩
    · have e1 : decide ((k : Int) < (x.length : Int)) = false := by simp; omega
      have e1' : decide (k < x.length) = false := by simp; omega
      have HT' : Hid (onlyL x cs = true) := onlyL_true (fun j hj => HK.out j (by omega))
      go_wp2_with fail
      go_ret
      exact ⟨ret_bool (by rw [HO.out, HT'.out]), rfl⟩
end Go.Proofs.YtlbhggjkcfcobaaDoor
