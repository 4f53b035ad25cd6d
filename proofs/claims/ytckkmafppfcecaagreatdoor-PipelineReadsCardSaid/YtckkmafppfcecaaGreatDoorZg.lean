/- Columns of the program: the order of the columns as an iterator; bytes gathered in a box. -/
import Derived.Test.YtckkmafppfcecaaGreatDoorZk
import Derived.Test.YtckkmafppfcecaaGreatDoorYb
import Derived.Test.YtckkmafppfcecaaGreatDoorRg
namespace Go.Proofs.YtckkmafppfcecaaGreatDoor
open Go.RowKit Go.Proofs
set_option linter.unusedVariables false
set_option linter.unusedSimpArgs false
attribute [local go_sem] Oper.semAt_some

theorem climits_any (n : Nat) (wd : Int) (w : World) : Calls Tryz.prog 108 #[.int .i64 (n : Int), .int .i64 wd] w fun e w' => e = .returned (.int .i64 (limD n wd)) ∧ w' = w := by
  unfold limD
  by_cases h0 : 65536 < n
  · have d0 : decide ((65536 : Int) < (n : Int)) = true := decide_eq_true (by omega)
    have d0' : decide (65536 < n) = true := decide_eq_true (by omega)
    rw [if_pos h0]
    clear h0
    go_enter Tryz.func108, Tryz.ntmps108
    go_wp2_with fail
    go_ret
    exact ⟨rfl, rfl⟩
  · have d0 : decide ((65536 : Int) < (n : Int)) = false := decide_eq_false (by omega)
    have d0' : decide (65536 < n) = false := decide_eq_false (by omega)
    rw [if_neg h0]
    clear h0
    by_cases h1 : wd < 1
    · have d1 : decide (wd < 1) = true := decide_eq_true h1
      rw [if_pos (.inl h1)]
      clear h1
      go_enter Tryz.func108, Tryz.ntmps108
      go_wp2_with fail
      go_ret
      exact ⟨rfl, rfl⟩
    · have d1 : decide (wd < 1) = false := decide_eq_false h1
      by_cases h2 : 64 < wd
      · have d2 : decide (64 < wd) = true := decide_eq_true h2
        rw [if_pos (.inr h2)]
        clear h1 h2
        go_enter Tryz.func108, Tryz.ntmps108
        go_wp2_with fail
        go_ret
        exact ⟨rfl, rfl⟩
      · have d2 : decide (64 < wd) = false := decide_eq_false h2
        rw [if_neg (by omega)]
        clear h1 h2
        go_enter Tryz.func108, Tryz.ntmps108
        go_wp2_with fail
        go_ret
        exact ⟨rfl, rfl⟩

def colRow (n wd : Nat) (k : Nat) : Array Value := #[.int .i64 ((oN (colL n wd) k : Nat) : Int)]
/-- what a round keeps: both boxes of the iterator. -/
def twoKp (b1 b2 : Nat) (X Y : World) : Prop := Y.heap[b1]? = X.heap[b1]? ∧ Y.heap[b2]? = X.heap[b2]?
theorem oN_drop {l : List Nat} {k i : Nat} {r : List Nat} (h : l.drop k = i :: r) : k < l.length ∧ oN l k = i ∧ l.drop (k + 1) = r := by
  have hk : k < l.length := by
    rcases Nat.lt_or_ge k l.length with h1 | h1
    · exact h1
    · rw [List.drop_of_length_le h1] at h; cases h
  rw [List.drop_eq_getElem_cons hk] at h
  injection h with h1 h2
  refine ⟨hk, ?_, h2⟩
  unfold oN
  rw [List.getD_eq_getElem?_getD, List.getElem?_eq_getElem hk, ← h1]
  rfl
theorem drop_nil {l : List Nat} {k : Nat} (h : l.drop k = []) (hk : k ≤ l.length) : k = l.length := by
  have := congrArg List.length h
  rw [List.length_drop] at this
  simp at this
  omega

set_option maxHeartbeats 2000000 in
theorem order1_gives (n wd : Nat) (hn : n ≤ 1000000) (hw : 1 ≤ wd) (hw2 : wd ≤ 64) (b1 b2 : Nat) :
    Gives Tryz.prog 171 #[.pointer (some ⟨b1, 0, none⟩), .pointer (some ⟨b2, 0, none⟩)] (colRow n wd) (colL n wd).length Eq (twoKp b1 b2)
      (fun W => Boxed W b1 3 (.int .i64 (wd : Int)) ∧ Boxed W b2 3 (.int .i64 (n : Int))) := by
  intro l J Jx W ⟨hbox1, hbox2⟩ hJ hJx hY h0
  have HY := Lib.hid hY; clear hY
  rcases Nat.lt_or_ge n wd with hc | hc
  · have HM : Hid (colL n wd = colFrom n wd n 0) := by show _ = _; rw [colL_min, show min wd n = n by omega]
    have q1 := hbox1.cell
    have q2 := hbox2.cell
    refine callsIn_of_wp Tryz.func171 rfl trivial ?_ rfl
    simp only [Tryz.ntmps171, List.size_toArray, List.length_cons, List.length_nil, Nat.reduceAdd, Nat.reduceSub, Array.replicate_succ, Array.replicate_zero, List.push_toArray, List.append_toArray, List.nil_append, List.cons_append]
    gi_wp2
    gi_loopw [4, 5, 9] (fun _ _ c wr => ∃ k c' : Nat, c' ≤ n ∧ c = .int .i64 (c' : Int) ∧ k ≤ (colL n wd).length ∧ J k wr ∧ Boxed wr b1 3 (.int .i64 (wd : Int)) ∧ Boxed wr b2 3 (.int .i64 (n : Int)) ∧ Hid ((colL n wd).drop k = colFrom n wd n c')) (fun _ _ c _ => n - (intOf c).toNat)
    case atStart => exact ⟨0, 0, Nat.zero_le _, rfl, Nat.zero_le _, h0, hbox1, hbox2, Lib.hid (by rw [List.drop_zero]; exact HM.out)⟩
    case round =>
      obtain ⟨k, c', hc', rfl, hk, hJk, hb1, hb2, HD⟩ := hrel
      clear q1 q2 hbox1 hbox2 h0
      by_cases hcm : c' < n
      · have d0 : decide ((c' : Int) < (n : Int)) = true := decide_eq_true (by omega)
        have d0' : decide (c' < n) = true := decide_eq_true hcm
        have q1 := hb1.cell
        have q2 := hb2.cell
        have HD2 : Hid ((colL n wd).drop k = upB n wd c' ++ colFrom n wd n (c' + 1)) := by show _ = _; rw [HD.out, colFrom_more hcm]
        clear HD
        gi_wp2
        obtain ⟨wo, hwo⟩ : ∃ wo, wo = wr := ⟨_, rfl⟩
        gi_loopw [5] (fun i wq => ∃ kq iq : Nat, i = .int .i64 (iq : Int) ∧ iq ≤ n + 64 ∧ kq ≤ (colL n wd).length ∧ J kq wq ∧ Boxed wq b1 3 (.int .i64 (wd : Int)) ∧ Boxed wq b2 3 (.int .i64 (n : Int)) ∧ Hid ((colL n wd).drop kq = upB n wd iq ++ colFrom n wd n (c' + 1))) (fun i _ => n - (intOf i).toNat)
        case atStart => exact ⟨k, c', rfl, by omega, hk, hJk, hb1, hb2, HD2⟩
        case round =>
          obtain ⟨kq, iq, rfl, hiq, hkq, hJq, hc1, hc2, HDq⟩ := hrel
          clear q1 q2 hb1 hb2 hJk
          have q1 := hc1.cell
          have q2 := hc2.cell
          by_cases hin : iq < n
          · have e0 : decide ((iq : Int) < (n : Int)) = true := decide_eq_true (by omega)
            have e0' : decide (iq < n) = true := decide_eq_true hin
            have hdq := HDq.out
            rw [upB_more hin (by omega), List.cons_append] at hdq
            obtain ⟨hkl, hoN, hdn⟩ := oN_drop hdq
            have hy0 := HY.out kq _ hkl hJq
            unfold colRow at hy0
            rw [hoN] at hy0
            have HDn := Lib.hid hdn
            clear hdq hoN hdn HDq HD2
            obtain ⟨fn, tmps, assign, body, hy, hR⟩ := hy0
            gi_wp2
            refine hR.mono ?_
            rintro e W3 (⟨rfl, hJ3, hk3⟩ | ⟨rfl, hJx3⟩)
            · have hd1 : Boxed W3 b1 3 (.int .i64 (wd : Int)) := hk3.1.trans hc1
              have hd2 : Boxed W3 b2 3 (.int .i64 (n : Int)) := hk3.2.trans hc2
              have r1 := hd1.cell
              have r2 := hd2.cell
              clear hR hy q1 q2
              gi_wp2
              go_roundw
              case rel => exact ⟨kq + 1, iq + wd, by go_num, by omega, hkl, hJ3, hd1, hd2, HDn⟩
              case measure => (simp [intOf]) <;> omega
            · clear hR hy
              gi_wp2
              refine bodyPost_ret (results_none rfl _ _ _) rfl ?_
              exact ⟨⟨_, rfl⟩, .inr ⟨kq + 1, hkl, hJx3⟩⟩
          · have e0 : decide ((iq : Int) < (n : Int)) = false := decide_eq_false (by omega)
            have e0' : decide (iq < n) = false := decide_eq_false hin
            have HDn : Hid ((colL n wd).drop kq = colFrom n wd n (c' + 1)) := by show _ = _; rw [HDq.out, upB_end (by omega), List.nil_append]
            gi_wp2
            go_roundw
            case rel => exact ⟨kq, c' + 1, by omega, by go_num, hkq, hJq, hc1, hc2, HDn⟩
            case measure => (simp [intOf]) <;> omega
      · obtain rfl : n = c' := by omega
        have d0 : decide ((n : Int) < (n : Int)) = false := by simp
        have hkl : k = (colL n wd).length := drop_nil (by rw [HD.out, colFrom_end (Nat.le_refl _)]) hk
        gi_wp2
        go_end0
        exact ⟨⟨_, rfl⟩, .inl (hkl ▸ hJk)⟩
  · have HM : Hid (colL n wd = colFrom n wd wd 0) := by show _ = _; rw [colL_min, show min wd n = wd by omega]
    have q1 := hbox1.cell
    have q2 := hbox2.cell
    refine callsIn_of_wp Tryz.func171 rfl trivial ?_ rfl
    simp only [Tryz.ntmps171, List.size_toArray, List.length_cons, List.length_nil, Nat.reduceAdd, Nat.reduceSub, Array.replicate_succ, Array.replicate_zero, List.push_toArray, List.append_toArray, List.nil_append, List.cons_append]
    gi_wp2
    gi_loopw [4, 5, 9] (fun _ _ c wr => ∃ k c' : Nat, c' ≤ wd ∧ c = .int .i64 (c' : Int) ∧ k ≤ (colL n wd).length ∧ J k wr ∧ Boxed wr b1 3 (.int .i64 (wd : Int)) ∧ Boxed wr b2 3 (.int .i64 (n : Int)) ∧ Hid ((colL n wd).drop k = colFrom n wd wd c')) (fun _ _ c _ => wd - (intOf c).toNat)
    case atStart => exact ⟨0, 0, Nat.zero_le _, rfl, Nat.zero_le _, h0, hbox1, hbox2, Lib.hid (by rw [List.drop_zero]; exact HM.out)⟩
    case round =>
      obtain ⟨k, c', hc', rfl, hk, hJk, hb1, hb2, HD⟩ := hrel
      clear q1 q2 hbox1 hbox2 h0
      by_cases hcm : c' < wd
      · have d0 : decide ((c' : Int) < (wd : Int)) = true := decide_eq_true (by omega)
        have d0' : decide (c' < wd) = true := decide_eq_true hcm
        have q1 := hb1.cell
        have q2 := hb2.cell
        have HD2 : Hid ((colL n wd).drop k = upB n wd c' ++ colFrom n wd wd (c' + 1)) := by show _ = _; rw [HD.out, colFrom_more hcm]
        clear HD
        gi_wp2
        obtain ⟨wo, hwo⟩ : ∃ wo, wo = wr := ⟨_, rfl⟩
        gi_loopw [5] (fun i wq => ∃ kq iq : Nat, i = .int .i64 (iq : Int) ∧ iq ≤ n + 64 ∧ kq ≤ (colL n wd).length ∧ J kq wq ∧ Boxed wq b1 3 (.int .i64 (wd : Int)) ∧ Boxed wq b2 3 (.int .i64 (n : Int)) ∧ Hid ((colL n wd).drop kq = upB n wd iq ++ colFrom n wd wd (c' + 1))) (fun i _ => n - (intOf i).toNat)
        case atStart => exact ⟨k, c', rfl, by omega, hk, hJk, hb1, hb2, HD2⟩
        case round =>
          obtain ⟨kq, iq, rfl, hiq, hkq, hJq, hc1, hc2, HDq⟩ := hrel
          clear q1 q2 hb1 hb2 hJk
          have q1 := hc1.cell
          have q2 := hc2.cell
          by_cases hin : iq < n
          · have e0 : decide ((iq : Int) < (n : Int)) = true := decide_eq_true (by omega)
            have e0' : decide (iq < n) = true := decide_eq_true hin
            have hdq := HDq.out
            rw [upB_more hin (by omega), List.cons_append] at hdq
            obtain ⟨hkl, hoN, hdn⟩ := oN_drop hdq
            have hy0 := HY.out kq _ hkl hJq
            unfold colRow at hy0
            rw [hoN] at hy0
            have HDn := Lib.hid hdn
            clear hdq hoN hdn HDq HD2
            obtain ⟨fn, tmps, assign, body, hy, hR⟩ := hy0
            gi_wp2
            refine hR.mono ?_
            rintro e W3 (⟨rfl, hJ3, hk3⟩ | ⟨rfl, hJx3⟩)
            · have hd1 : Boxed W3 b1 3 (.int .i64 (wd : Int)) := hk3.1.trans hc1
              have hd2 : Boxed W3 b2 3 (.int .i64 (n : Int)) := hk3.2.trans hc2
              have r1 := hd1.cell
              have r2 := hd2.cell
              clear hR hy q1 q2
              gi_wp2
              go_roundw
              case rel => exact ⟨kq + 1, iq + wd, by go_num, by omega, hkl, hJ3, hd1, hd2, HDn⟩
              case measure => (simp [intOf]) <;> omega
            · clear hR hy
              gi_wp2
              refine bodyPost_ret (results_none rfl _ _ _) rfl ?_
              exact ⟨⟨_, rfl⟩, .inr ⟨kq + 1, hkl, hJx3⟩⟩
          · have e0 : decide ((iq : Int) < (n : Int)) = false := decide_eq_false (by omega)
            have e0' : decide (iq < n) = false := decide_eq_false hin
            have HDn : Hid ((colL n wd).drop kq = colFrom n wd wd (c' + 1)) := by show _ = _; rw [HDq.out, upB_end (by omega), List.nil_append]
            gi_wp2
            go_roundw
            case rel => exact ⟨kq, c' + 1, by omega, by go_num, hkq, hJq, hc1, hc2, HDn⟩
            case measure => (simp [intOf]) <;> omega
      · obtain rfl : wd = c' := by omega
        have d0 : decide ((wd : Int) < (wd : Int)) = false := by simp
        have hkl : k = (colL n wd).length := drop_nil (by rw [HD.out, colFrom_end (Nat.le_refl _)]) hk
        gi_wp2
        go_end0
        exact ⟨⟨_, rfl⟩, .inl (hkl ▸ hJk)⟩
end Go.Proofs.YtckkmafppfcecaaGreatDoor
