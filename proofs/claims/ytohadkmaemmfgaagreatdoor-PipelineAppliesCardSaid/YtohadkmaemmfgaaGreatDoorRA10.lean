/- Zg Zh Zq Na. -/
import Derived.Test.YtohadkmaemmfgaaGreatDoorRA09
import Derived.Test.YtohadkmaemmfgaaGreatDoorRA03
import Derived.Shelf.Abstract
import Derived.Test.YtohadkmaemmfgaaGreatDoorRA00
import Derived.Test.YtohadkmaemmfgaaGreatDoorRA01
set_option maxRecDepth 100000
set_option maxHeartbeats 4000000
namespace Go.Proofs.YtohadkmaemmfgaaGreatDoor
open Go.RowKit Go.Proofs
set_option linter.unusedVariables false
set_option linter.unusedSimpArgs false
attribute [local go_sem] Oper.semAt_some
theorem climits_any (n : Nat) (wd : Int) (w : World) : Calls Tryz.prog 72 #[.int .i64 (n : Int), .int .i64 wd] w fun e w' => e = .returned (.int .i64 (limD n wd)) ∧ w' = w := by
  unfold limD
  by_cases h0 : 65536 < n
  · have d0 : decide ((65536 : Int) < (n : Int)) = true := decide_eq_true (by omega)
    have d0' : decide (65536 < n) = true := decide_eq_true (by omega)
    rw [if_pos h0]
    clear h0
    go_enter Tryz.func72, Tryz.ntmps72
    go_wp2_with fail
    go_ret
    exact ⟨rfl, rfl⟩
  · have d0 : decide ((65536 : Int) < (n : Int)) = false := decide_eq_false (by omega)
    have d0' : decide (65536 < n) = false := decide_eq_false (by omega)
    rw [if_neg h0]
    clear h0
    by_cases h1 : wd < 1
    · have d1 : decide (wd < 1) = true := decide_eq_true h1
      rw [if_pos (.inl h1)]
      clear h1
      go_enter Tryz.func72, Tryz.ntmps72
      go_wp2_with fail
      go_ret
      exact ⟨rfl, rfl⟩
    · have d1 : decide (wd < 1) = false := decide_eq_false h1
      by_cases h2 : 64 < wd
      · have d2 : decide (64 < wd) = true := decide_eq_true h2
        rw [if_pos (.inr h2)]
        clear h1 h2
        go_enter Tryz.func72, Tryz.ntmps72
        go_wp2_with fail
        go_ret
        exact ⟨rfl, rfl⟩
      · have d2 : decide (64 < wd) = false := decide_eq_false h2
        rw [if_neg (by omega)]
        clear h1 h2
        go_enter Tryz.func72, Tryz.ntmps72
        go_wp2_with fail
        go_ret
        exact ⟨rfl, rfl⟩
def colRow (n wd : Nat) (k : Nat) : Array Value := #[.int .i64 ((oN (colL n wd) k : Nat) : Int)]
def twoKp (b1 b2 : Nat) (X Y : World) : Prop := Y.heap[b1]? = X.heap[b1]? ∧ Y.heap[b2]? = X.heap[b2]?
theorem oN_drop {l : List Nat} {k i : Nat} {r : List Nat} (h : l.drop k = i :: r) : k < l.length ∧ oN l k = i ∧ l.drop (k + 1) = r := by
  have hk : k < l.length := by
    rcases Nat.lt_or_ge k l.length with h1 | h1
    · exact h1
    · rw [List.drop_of_length_le h1] at h; cases h
  rw [List.drop_eq_getElem_cons hk] at h
  injection h with h1 h2
  refine ⟨hk, ?_, h2⟩
  unfold oN
  rw [List.getD_eq_getElem?_getD, List.getElem?_eq_getElem hk, ← h1]
  rfl
theorem drop_nil {l : List Nat} {k : Nat} (h : l.drop k = []) (hk : k ≤ l.length) : k = l.length := by
  have := congrArg List.length h
  rw [List.length_drop] at this
  simp at this
  omega
theorem order1_gives (n wd : Nat) (hn : n ≤ 1000000) (hw : 1 ≤ wd) (hw2 : wd ≤ 64) (b1 b2 : Nat) :
    Gives Tryz.prog 131 #[.pointer (some ⟨b1, 0, none⟩), .pointer (some ⟨b2, 0, none⟩)] (colRow n wd) (colL n wd).length Eq (twoKp b1 b2)
      (fun W => Boxed W b1 3 (.int .i64 (wd : Int)) ∧ Boxed W b2 3 (.int .i64 (n : Int))) := by
  intro l J Jx W ⟨hbox1, hbox2⟩ hJ hJx hY h0
  have HY := Lib.hid hY; clear hY
  rcases Nat.lt_or_ge n wd with hc | hc
  · have HM : Hid (colL n wd = colFrom n wd n 0) := by show _ = _; rw [colL_min, show min wd n = n by omega]
    have q1 := hbox1.cell
    have q2 := hbox2.cell
    refine callsIn_of_wp Tryz.func131 rfl trivial ?_ rfl
    simp only [Tryz.ntmps131, List.size_toArray, List.length_cons, List.length_nil, Nat.reduceAdd, Nat.reduceSub, Array.replicate_succ, Array.replicate_zero, List.push_toArray, List.append_toArray, List.nil_append, List.cons_append]
    gi_wp2
    gi_loopw [4, 5, 9] (fun _ _ c wr => ∃ k c' : Nat, c' ≤ n ∧ c = .int .i64 (c' : Int) ∧ k ≤ (colL n wd).length ∧ J k wr ∧ Boxed wr b1 3 (.int .i64 (wd : Int)) ∧ Boxed wr b2 3 (.int .i64 (n : Int)) ∧ Hid ((colL n wd).drop k = colFrom n wd n c')) (fun _ _ c _ => n - (intOf c).toNat)
    case atStart => exact ⟨0, 0, Nat.zero_le _, rfl, Nat.zero_le _, h0, hbox1, hbox2, Lib.hid (by rw [List.drop_zero]; exact HM.out)⟩
    case round =>
      obtain ⟨k, c', hc', rfl, hk, hJk, hb1, hb2, HD⟩ := hrel
      clear q1 q2 hbox1 hbox2 h0
      by_cases hcm : c' < n
      · have d0 : decide ((c' : Int) < (n : Int)) = true := decide_eq_true (by omega)
        have d0' : decide (c' < n) = true := decide_eq_true hcm
        have q1 := hb1.cell
        have q2 := hb2.cell
        have HD2 : Hid ((colL n wd).drop k = upB n wd c' ++ colFrom n wd n (c' + 1)) := by show _ = _; rw [HD.out, colFrom_more hcm]
        clear HD
        gi_wp2
        obtain ⟨wo, hwo⟩ : ∃ wo, wo = wr := ⟨_, rfl⟩
        gi_loopw [5] (fun i wq => ∃ kq iq : Nat, i = .int .i64 (iq : Int) ∧ iq ≤ n + 64 ∧ kq ≤ (colL n wd).length ∧ J kq wq ∧ Boxed wq b1 3 (.int .i64 (wd : Int)) ∧ Boxed wq b2 3 (.int .i64 (n : Int)) ∧ Hid ((colL n wd).drop kq = upB n wd iq ++ colFrom n wd n (c' + 1))) (fun i _ => n - (intOf i).toNat)
        case atStart => exact ⟨k, c', rfl, by omega, hk, hJk, hb1, hb2, HD2⟩
        case round =>
          obtain ⟨kq, iq, rfl, hiq, hkq, hJq, hc1, hc2, HDq⟩ := hrel
          clear q1 q2 hb1 hb2 hJk
          have q1 := hc1.cell
          have q2 := hc2.cell
          by_cases hin : iq < n
          · have e0 : decide ((iq : Int) < (n : Int)) = true := decide_eq_true (by omega)
            have e0' : decide (iq < n) = true := decide_eq_true hin
            have hdq := HDq.out
            rw [upB_more hin (by omega), List.cons_append] at hdq
            obtain ⟨hkl, hoN, hdn⟩ := oN_drop hdq
            have hy0 := HY.out kq _ hkl hJq
            unfold colRow at hy0
            rw [hoN] at hy0
            have HDn := Lib.hid hdn
            clear hdq hoN hdn HDq HD2
            obtain ⟨fn, tmps, assign, body, hy, hR⟩ := hy0
            gi_wp2
            refine hR.mono ?_
            rintro e W3 (⟨rfl, hJ3, hk3⟩ | ⟨rfl, hJx3⟩)
            · have hd1 : Boxed W3 b1 3 (.int .i64 (wd : Int)) := hk3.1.trans hc1
              have hd2 : Boxed W3 b2 3 (.int .i64 (n : Int)) := hk3.2.trans hc2
              have r1 := hd1.cell
              have r2 := hd2.cell
              clear hR hy q1 q2
              gi_wp2
              go_roundw
              case rel => exact ⟨kq + 1, iq + wd, by go_num, by omega, hkl, hJ3, hd1, hd2, HDn⟩
              case measure => (simp [intOf]) <;> omega
            · clear hR hy
              gi_wp2
              refine bodyPost_ret (results_none rfl _ _ _) rfl ?_
              exact ⟨⟨_, rfl⟩, .inr ⟨kq + 1, hkl, hJx3⟩⟩
          · have e0 : decide ((iq : Int) < (n : Int)) = false := decide_eq_false (by omega)
            have e0' : decide (iq < n) = false := decide_eq_false hin
            have HDn : Hid ((colL n wd).drop kq = colFrom n wd n (c' + 1)) := by show _ = _; rw [HDq.out, upB_end (by omega), List.nil_append]
            gi_wp2
            go_roundw
            case rel => exact ⟨kq, c' + 1, by omega, by go_num, hkq, hJq, hc1, hc2, HDn⟩
            case measure => (simp [intOf]) <;> omega
      · obtain rfl : n = c' := by omega
        have d0 : decide ((n : Int) < (n : Int)) = false := by simp
        have hkl : k = (colL n wd).length := drop_nil (by rw [HD.out, colFrom_end (Nat.le_refl _)]) hk
        gi_wp2
        go_end0
        exact ⟨⟨_, rfl⟩, .inl (hkl ▸ hJk)⟩
  · have HM : Hid (colL n wd = colFrom n wd wd 0) := by show _ = _; rw [colL_min, show min wd n = wd by omega]
    have q1 := hbox1.cell
    have q2 := hbox2.cell
    refine callsIn_of_wp Tryz.func131 rfl trivial ?_ rfl
    simp only [Tryz.ntmps131, List.size_toArray, List.length_cons, List.length_nil, Nat.reduceAdd, Nat.reduceSub, Array.replicate_succ, Array.replicate_zero, List.push_toArray, List.append_toArray, List.nil_append, List.cons_append]
    gi_wp2
    gi_loopw [4, 5, 9] (fun _ _ c wr => ∃ k c' : Nat, c' ≤ wd ∧ c = .int .i64 (c' : Int) ∧ k ≤ (colL n wd).length ∧ J k wr ∧ Boxed wr b1 3 (.int .i64 (wd : Int)) ∧ Boxed wr b2 3 (.int .i64 (n : Int)) ∧ Hid ((colL n wd).drop k = colFrom n wd wd c')) (fun _ _ c _ => wd - (intOf c).toNat)
    case atStart => exact ⟨0, 0, Nat.zero_le _, rfl, Nat.zero_le _, h0, hbox1, hbox2, Lib.hid (by rw [List.drop_zero]; exact HM.out)⟩
    case round =>
      obtain ⟨k, c', hc', rfl, hk, hJk, hb1, hb2, HD⟩ := hrel
      clear q1 q2 hbox1 hbox2 h0
      by_cases hcm : c' < wd
      · have d0 : decide ((c' : Int) < (wd : Int)) = true := decide_eq_true (by omega)
        have d0' : decide (c' < wd) = true := decide_eq_true hcm
        have q1 := hb1.cell
        have q2 := hb2.cell
        have HD2 : Hid ((colL n wd).drop k = upB n wd c' ++ colFrom n wd wd (c' + 1)) := by show _ = _; rw [HD.out, colFrom_more hcm]
        clear HD
        gi_wp2
        obtain ⟨wo, hwo⟩ : ∃ wo, wo = wr := ⟨_, rfl⟩
        gi_loopw [5] (fun i wq => ∃ kq iq : Nat, i = .int .i64 (iq : Int) ∧ iq ≤ n + 64 ∧ kq ≤ (colL n wd).length ∧ J kq wq ∧ Boxed wq b1 3 (.int .i64 (wd : Int)) ∧ Boxed wq b2 3 (.int .i64 (n : Int)) ∧ Hid ((colL n wd).drop kq = upB n wd iq ++ colFrom n wd wd (c' + 1))) (fun i _ => n - (intOf i).toNat)
        case atStart => exact ⟨k, c', rfl, by omega, hk, hJk, hb1, hb2, HD2⟩
        case round =>
          obtain ⟨kq, iq, rfl, hiq, hkq, hJq, hc1, hc2, HDq⟩ := hrel
          clear q1 q2 hb1 hb2 hJk
          have q1 := hc1.cell
          have q2 := hc2.cell
          by_cases hin : iq < n
          · have e0 : decide ((iq : Int) < (n : Int)) = true := decide_eq_true (by omega)
            have e0' : decide (iq < n) = true := decide_eq_true hin
            have hdq := HDq.out
            rw [upB_more hin (by omega), List.cons_append] at hdq
            obtain ⟨hkl, hoN, hdn⟩ := oN_drop hdq
            have hy0 := HY.out kq _ hkl hJq
            unfold colRow at hy0
            rw [hoN] at hy0
            have HDn := Lib.hid hdn
            clear hdq hoN hdn HDq HD2
            obtain ⟨fn, tmps, assign, body, hy, hR⟩ := hy0
            gi_wp2
            refine hR.mono ?_
            rintro e W3 (⟨rfl, hJ3, hk3⟩ | ⟨rfl, hJx3⟩)
            · have hd1 : Boxed W3 b1 3 (.int .i64 (wd : Int)) := hk3.1.trans hc1
              have hd2 : Boxed W3 b2 3 (.int .i64 (n : Int)) := hk3.2.trans hc2
              have r1 := hd1.cell
              have r2 := hd2.cell
              clear hR hy q1 q2
              gi_wp2
              go_roundw
              case rel => exact ⟨kq + 1, iq + wd, by go_num, by omega, hkl, hJ3, hd1, hd2, HDn⟩
              case measure => (simp [intOf]) <;> omega
            · clear hR hy
              gi_wp2
              refine bodyPost_ret (results_none rfl _ _ _) rfl ?_
              exact ⟨⟨_, rfl⟩, .inr ⟨kq + 1, hkl, hJx3⟩⟩
          · have e0 : decide ((iq : Int) < (n : Int)) = false := decide_eq_false (by omega)
            have e0' : decide (iq < n) = false := decide_eq_false hin
            have HDn : Hid ((colL n wd).drop kq = colFrom n wd wd (c' + 1)) := by show _ = _; rw [HDq.out, upB_end (by omega), List.nil_append]
            gi_wp2
            go_roundw
            case rel => exact ⟨kq, c' + 1, by omega, by go_num, hkq, hJq, hc1, hc2, HDn⟩
            case measure => (simp [intOf]) <;> omega
      · obtain rfl : wd = c' := by omega
        have d0 : decide ((wd : Int) < (wd : Int)) = false := by simp
        have hkl : k = (colL n wd).length := drop_nil (by rw [HD.out, colFrom_end (Nat.le_refl _)]) hk
        gi_wp2
        go_end0
        exact ⟨⟨_, rfl⟩, .inl (hkl ▸ hJk)⟩
end Go.Proofs.YtohadkmaemmfgaaGreatDoor
namespace Go.Proofs.YtohadkmaemmfgaaGreatDoor
open Go.RowKit Go.Proofs
set_option linter.unusedVariables false
set_option linter.unusedSimpArgs false
attribute [local go_sem] Oper.semAt_some
theorem blk_type {w : World} {B : Nat} {A : Option Addr} {n c : Nat} {xs : List UInt8} (h : Own encB w B 5 A n c xs) {g : Nat} (hg : (Value.slice A n c).ownBlock = some g) : B ≤ g ∧ ∃ cur, w.heap[g]? = some (.cells cur 5 (0, 0)) := by
  rcases h.2 with ⟨h1, _⟩ | ⟨g', cap, cur, h1, h2, h3, _⟩
  · rw [h1] at hg; cases hg
  · rw [h1] at hg
    injection hg with hg
    have hg' : g' = g := hg
    subst hg'
    exact ⟨h2, cur, h3⟩
theorem own_keepT {X Y : World} {B : Nat} {A : Option Addr} {n c : Nat} {xs : List UInt8} (h : Own encB X B 5 A n c xs) (hb : ∀ g cur, B ≤ g → X.heap[g]? = some (.cells cur 5 (0, 0)) → Y.heap[g]? = some (.cells cur 5 (0, 0))) : Own encB Y B 5 A n c xs := by
  refine ⟨h.1, ?_⟩
  rcases h.2 with h1 | ⟨g, cap, cur, h1, h2, h3, h4⟩
  · exact .inl h1
  · exact .inr ⟨g, cap, cur, h1, h2, hb g _ h2 h3, h4⟩
structure InvB (w : World) (S ob : Nat) (fx : List (Nat × Obj)) (xs : List UInt8) (W : World) : Prop where
  fix : ∀ p ∈ fx, W.heap[p.1]? = some p.2
  out : ∃ A2 n2 c2, Boxed W ob 23 (.slice A2 n2 c2) ∧ Own encB W S 5 A2 n2 c2 xs
  below : Below w.heap.size w W
  size : S ≤ W.heap.size
def FxOk (S ob : Nat) (fx : List (Nat × Obj)) : Prop := ∀ p ∈ fx, p.1 < S ∧ p.1 ≠ ob ∧ ∀ cur, p.2 ≠ .cells cur 5 (0, 0)
section
variable {w W W' : World} {S ob : Nat} {fx : List (Nat × Obj)} {xs : List UInt8}
theorem InvB.kept {row : Option Nat} (h : InvB w S ob fx xs W) (hf : FxOk S ob fx) (hob : ob < S) (hwS : w.heap.size ≤ S) (hg : W.grownBy W' row) (hrow : ∀ r, row = some r → S ≤ r) (hc : ∀ r o, row = some r → W.heap[r]? = some o → o.isCells = false) : InvB w S ob fx xs W' := by
  obtain ⟨h1, ⟨A2, n2, c2, h3, h4⟩, h5, h6⟩ := h
  have ne : ∀ j, j < S → some j ≠ row := fun j hj e => by have := hrow j e.symm; omega
  refine ⟨fun p hp => (hg.block p.1 (Array.getElem?_eq_some_iff.1 (h1 p hp)).1 (ne _ (hf p hp).1)).trans (h1 p hp), ⟨A2, n2, c2, h3.kept hg (ne _ hob), own_keepT h4 fun g cur hB ho => ?_⟩, h5.grown hg h5.size (fun r e => by have := hrow r e; omega), Nat.le_trans h6 hg.size⟩
  refine (hg.block g (Array.getElem?_eq_some_iff.1 ho).1 (fun e => ?_)).trans ho
  have := hc g _ e.symm ho
  cases this
theorem InvB.step {W1 W6 : World} {A2 A6 : Option Addr} {n2 c2 n6 c6 : Nat} {ys : List UInt8} (h : InvB w S ob fx xs W) (hf : FxOk S ob fx) (hobS : ob < S) (hwo : w.heap.size ≤ ob) (hb : Below W.heap.size W W1) (hob : Boxed W ob 23 (.slice A2 n2 c2)) (hown : Own encB W S 5 A2 n2 c2 xs)
    (hg : W1.grownBy W6 (Value.slice A2 n2 c2).ownBlock) (ho : Own encB W6 S 5 A6 n6 c6 ys) :
    KeepsFrom S W (W6.setCell ⟨ob, 0, none⟩ (.slice A6 n6 c6)) ∧ (∀ p ∈ fx, (W6.setCell ⟨ob, 0, none⟩ (.slice A6 n6 c6)).heap[p.1]? = W.heap[p.1]?) ∧ InvB w S ob fx ys (W6.setCell ⟨ob, 0, none⟩ (.slice A6 n6 c6)) := by
  have hsz := h.size
  have hsw : (W6.setCell ⟨ob, 0, none⟩ (.slice A6 n6 c6)).heap.size = W6.heap.size := by simp [World.setCell]
  have s1 := hb.size
  have s6 := hg.size
  have keep : ∀ (j : Nat) (o : Obj), W.heap[j]? = some o → j ≠ ob → (∀ cur, o ≠ .cells cur 5 (0, 0)) → (W6.setCell ⟨ob, 0, none⟩ (.slice A6 n6 c6)).heap[j]? = some o := fun j o hj hne hno => by
    have hlt := (Array.getElem?_eq_some_iff.1 hj).1
    refine (Below.heap_setCell W6 ⟨ob, 0, none⟩ _ j hne).trans ((hg.block j (by omega) (fun e => ?_)).trans ((hb.block j hlt).trans hj))
    obtain ⟨_, cur, hc⟩ := blk_type hown e.symm
    rw [hj] at hc
    injection hc with hc
    exact hno cur hc
  have hbel : Below w.heap.size W (W6.setCell ⟨ob, 0, none⟩ (.slice A6 n6 c6)) := by
    refine Below.setCell (p := ⟨ob, 0, none⟩) ?_ hwo _
    exact (hb.mono (by omega)).grown hg (by omega) (fun r e => by have := (blk_type hown e).1; omega)
  refine ⟨⟨by rw [hsw]; omega, fun j o hj ho' hno => keep j o ho' (by omega) (fun cur e => by rw [e] at hno; cases hno)⟩, fun p hp => ?_, fun p hp => keep _ _ (h.fix p hp) (hf p hp).2.1 (hf p hp).2.2, ?_, h.below.trans hbel, by rw [hsw]; omega⟩
  · rw [h.fix p hp]
    exact keep _ _ (h.fix p hp) (hf p hp).2.1 (hf p hp).2.2
  · have hb6 : Boxed W6 ob 23 (.slice A2 n2 c2) := by
      refine (hg.block _ (by omega) (fun e => ?_)).trans ((hb.block ob (by omega)).trans hob)
      obtain ⟨_, cur, hc⟩ := blk_type hown e.symm
      unfold Boxed at hob
      rw [hob] at hc
      injection hc with hc
      injection hc with _ hc
      exact absurd hc (by decide)
    refine ⟨A6, n6, c6, hb6.set _, own_keepT ho fun g cur hB hgo => (Below.heap_setCell W6 ⟨ob, 0, none⟩ _ g (fun e => ?_)).trans hgo⟩
    have e' : g = ob := e
    rw [e'] at hgo
    unfold Boxed at hb6
    rw [hb6] at hgo
    injection hgo with hgo
    injection hgo with _ hgo
    exact absurd hgo (by decide)
end
section
variable {α : Type} {enc : α → Value} {P : Program} {w : World} {B : Nat} {e t : TypeId} {A : Option Addr} {n c : Nat} {xs : List α} {zero : α} {bytes : Nat} {F : Fence} {nF : Nat}
  {ops : Array Oper} {rest : List Oper} {o : Oper} {a : Act} {K : Act → World → Prop} {Q : Exit → Act → World → Prop} {E : Prop}
theorem wpListIn_pushg (hgd : o.guard = none) (s x : Operand) (ho : o.op = .call { callee := .builtin .append, args := #[s, x], argTypes := #[t, t] })
    (ht : P.underlying t = some (.slice e)) (hi : (P.info? e).map (fun i => (i.zero, i.size, i.bytes)) = some (some (enc zero), 1, bytes)) (h1 : ∀ x, (enc x).oneCell' = true) (hz : (enc zero).cells.size = 1)
    (hs : a.eval s = .slice A n c) (hown : Own enc w B e A n c xs) (hB : B ≤ w.heap.size) (y : α) (v : Value) (hv : enc y = v)
    (hx : a.eval x = .slice (some ⟨w.heap.size, 0, none⟩) 1 1) (hl : n + 1 ≤ maxLen) (hby : (n + 1) * bytes ≤ 140737488355328)
    (h : ∀ A2 c2 w', Own enc w' B e A2 (n + 1) c2 (xs ++ [y]) → w.grownBy w' (Value.slice A n c).ownBlock → wpListIn F nF P ops Q rest (a.put o.dst (.slice A2 (n + 1) c2)) w') : wpListIn F nF P ops Q (o :: rest) a (w.alloc (.cells #[v] e)) := by
  subst hv
  refine wpListIn_plain hgd fun K' hK' => ?_
  obtain ⟨A2, c2, w', hrun, h2, h3, h4⟩ := run_append_own_one (P := P) o.type ht hi h1 hz hown hB y hl hby
  unfold Oper.wpIn
  refine ⟨by simp [Oper.about, ho, resolve, Target.leads, Sem.run_pure], ?_⟩
  rw [Oper.semAt_plain F _ _ (by rw [ho]; intro c hc'; cases hc')]
  simp [execOp, ho, resolve, invoke, builtin, hs, hx, hrun, Result.andThen]
  exact hK' _ _ (h A2 c2 w' h2 (grownBy.trans' (World.grownBy_alloc w _ _) h4))
end
theorem order_any (n wd : Nat) (w : World) :
    Calls Tryz.prog 73 #[.int .i64 (n : Int), .int .i64 (wd : Int)] w fun e w' => e = .returned (.func (.func 131) #[] #[.pointer (some ⟨w.heap.size + 1, 0, none⟩), .pointer (some ⟨w.heap.size, 0, none⟩)]) ∧ w' = (w.alloc (.cells #[.int .i64 (n : Int)] 3)).alloc (.cells #[.int .i64 (wd : Int)] 3) := by
  go_enter Tryz.func73, Tryz.ntmps73
  go_wp2_with fail
  go_ret
  exact ⟨rfl, rfl⟩
theorem col_start {w w4 : World} {A : Option Addr} {n c wd : Nat}
    (hw4 : w4 = (((w.alloc (.cells #[.slice A n c] 23)).alloc (.cells #[.slice none 0 0] 23)).alloc (.cells #[.int .i64 (n : Int)] 3)).alloc (.cells #[.int .i64 (wd : Int)] 3)) :
    InvB w (w.heap.size + 4) (w.heap.size + 1) [(w.heap.size, .cells #[.slice A n c] 23), (w.heap.size + 2, .cells #[.int .i64 (n : Int)] 3), (w.heap.size + 3, .cells #[.int .i64 (wd : Int)] 3)] [] w4 ∧ w4.heap.size = w.heap.size + 4 := by
  obtain ⟨w1, h1⟩ : ∃ w1, w1 = w.alloc (.cells #[.slice A n c] 23) := ⟨_, rfl⟩
  obtain ⟨w2, h2⟩ : ∃ w2, w2 = w1.alloc (.cells #[.slice none 0 0] 23) := ⟨_, rfl⟩
  obtain ⟨w3, h3⟩ : ∃ w3, w3 = w2.alloc (.cells #[.int .i64 (n : Int)] 3) := ⟨_, rfl⟩
  rw [← h1, ← h2, ← h3] at hw4
  have s1 : w1.heap.size = w.heap.size + 1 := by rw [h1, World.size_alloc]
  have s2 : w2.heap.size = w.heap.size + 2 := by rw [h2, World.size_alloc, s1]
  have s3 : w3.heap.size = w.heap.size + 3 := by rw [h3, World.size_alloc, s2]
  have s4 : w4.heap.size = w.heap.size + 4 := by rw [hw4, World.size_alloc, s3]
  have g1 : Below w.heap.size w w1 := by rw [h1]; exact balloc (Below.refl _ _) _
  have g2 : Below w1.heap.size w1 w2 := by rw [h2]; exact balloc (Below.refl _ _) _
  have g3 : Below w2.heap.size w2 w3 := by rw [h3]; exact balloc (Below.refl _ _) _
  have g4 : Below w3.heap.size w3 w4 := by rw [hw4]; exact balloc (Below.refl _ _) _
  have r1 : rowV w1 w.heap.size 23 #[.slice A n c] := by rw [h1]; exact rowV.new w _ _
  have r2 : rowV w2 (w.heap.size + 1) 23 #[.slice none 0 0] := by have := rowV.new w1 23 #[.slice none 0 0]; rw [s1] at this; rw [h2]; exact this
  have r3 : rowV w3 (w.heap.size + 2) 3 #[.int .i64 (n : Int)] := by have := rowV.new w2 3 #[.int .i64 (n : Int)]; rw [s2] at this; rw [h3]; exact this
  have r4 : rowV w4 (w.heap.size + 3) 3 #[.int .i64 (wd : Int)] := by have := rowV.new w3 3 #[.int .i64 (wd : Int)]; rw [s3] at this; rw [hw4]; exact this
  refine ⟨⟨fun p hp => ?_, ⟨none, 0, 0, ((r2.below g3 (by omega)).below g4 (by omega)), Own.nil _ _ _ _⟩, ?_, by omega⟩, s4⟩
  · simp only [List.mem_cons, List.not_mem_nil, or_false] at hp
    rcases hp with rfl | rfl | rfl
    · exact ((r1.below g2 (by omega)).below g3 (by omega)).below g4 (by omega)
    · exact r3.below g4 (by omega)
    · exact r4
  · exact ((g1.trans (g2.mono (by omega))).trans (g3.mono (by omega))).trans (g4.mono (by omega))
theorem col_fx (w : World) (A : Option Addr) (n c wd : Nat) : FxOk (w.heap.size + 4) (w.heap.size + 1) [(w.heap.size, .cells #[.slice A n c] 23), (w.heap.size + 2, .cells #[.int .i64 (n : Int)] 3), (w.heap.size + 3, .cells #[.int .i64 (wd : Int)] 3)] := by
  intro p hp
  simp only [List.mem_cons, List.not_mem_nil, or_false] at hp
  rcases hp with rfl | rfl | rfl
  · exact ⟨by omega, by omega, fun cur e => by injection e with _ e; exact absurd e (by decide)⟩
  · exact ⟨by omega, by omega, fun cur e => by injection e with _ e; exact absurd e (by decide)⟩
  · exact ⟨by omega, by omega, fun cur e => by injection e with _ e; exact absurd e (by decide)⟩
theorem wp_rangeFunc_one {P : Program} {g : Operand} {p1 : Tmp} {assign body : Code} {Q : Exit → Act → World → Prop} {a : Act} {w : World}
    {gf : Nat} {lb : Array Value} (hg : a.eval g = .func (.func gf) #[] lb) (eg : ∀ args w, (callFunc gf args).run P w = .ok (.enter gf args) w)
    {u : Nat → Value} {len : Nat} {Ab Kp : World → World → Prop} {Pre : World → Prop} (hseq : Gives P gf lb (fun k => #[u k]) len Ab Kp Pre)
    (hPre : ∀ o1 o2, Pre ((w.alloc o1).alloc o2)) (hAb : ∀ A B, Ab A B → KeepsFrom w.heap.size A B)
    (hKt : ∀ {A B C : World}, Kp A B → Kp B C → Kp A C) (hKb : ∀ (W : World) (l : Nat) (o o' : Obj), w.heap.size ≤ l → W.heap[l]? = some o → o.isCells = false → Kp W (W.putObj l o'))
    (I : Nat → World → Prop) (Ix : Code → Nat → World → Prop) (hI : OwnFrom w.heap.size I) (hIx : ∀ c, OwnFrom w.heap.size (Ix c))
    (hIA : ∀ k A B, I k A → Ab A B → I k B) (hIxA : ∀ c k A B, Ix c k A → Ab A B → Ix c k B) (h0 : I 0 w) (G : Value → Array Value → Array Value)
    (hassign : ∀ (l k : Nat) (W : World) (K : Act → World → Prop), K { tmps := G (u k) a.tmps, defers := [] } W →
      assign.wpIn (Fence.wide.inRound l) 7 P (Exit.then K (fun _ _ _ => False)) { tmps := a.tmps.setIfInBounds p1 (u k), defers := [] } W)
    (hbody : ∀ (l k : Nat) (W : World), k < len → w.heap.size ≤ l → I k W → body.wpIn (Fence.wide.inRound l) 7 P (roundEnd w.heap.size Kp I Ix (k + 1) W) { tmps := G (u k) a.tmps, defers := [] } W)
    (hdone : ∀ (D : Nat) (W : World), w.heap.size ≤ D → I len W → W.heap[D]? = some (.deferred (some [])) → Q .normal { a with defers := { target := .collected D, args := #[] } :: a.defers } W)
    (hstop : ∀ (D : Nat) (c : Code) (k : Nat) (W : World), w.heap.size ≤ D → k ≤ len → Ix c k W → W.heap[D]? = some (.deferred (some [])) → c.wp P Q { a with defers := { target := .collected D, args := #[] } :: a.defers } W) :
    (Code.rangeFunc g #[p1] assign body).wp P Q a w :=
  wp_rangeFunc_row hg eg hseq hPre hAb hKt hKb (fun _ => rfl) I Ix hI hIx hIA hIxA h0 (fun k => { tmps := G (u k) a.tmps, defers := [] })
    (fun l k W K hK => by
      have e : (#[p1] : Array Tmp).zip #[u k] = #[(p1, u k)] := by simp
      simp only [e]
      exact hassign l k W K hK) hbody hdone hstop
def gathT (bs : List UInt8) (l : List Nat) (k : Nat) : List UInt8 := (l.take k).map (bA bs)
theorem gath_next {bs : List UInt8} {l : List Nat} {k : Nat} (h : k < l.length) : gathT bs l (k + 1) = gathT bs l k ++ [bA bs (oN l k)] := by
  have e : oN l k = l[k] := by unfold oN; rw [List.getD_eq_getElem?_getD, List.getElem?_eq_getElem h]; rfl
  unfold gathT
  rw [List.take_succ_eq_append_getElem h, List.map_append, e]
  rfl
theorem columnsF_any (A : Option Addr) (n c : Nat) (wd : Int) (bs : List UInt8) (w : World) (hx : Bytes w A n c bs) (hn : n ≤ 1000000) :
    Calls Tryz.prog 30 #[.slice A n c, .int .i64 wd] w (RetBytes w (if limD n wd = 0 then columnsF wd.toNat bs else []) (limD n wd)) := by
  have H1 := Lib.hid (fun W => climits_any n wd W)
  have Hn := Lib.hid hx.1
  obtain ⟨w1, hw1⟩ : ∃ w1, w1 = w.alloc (.cells #[.slice A n c] 23) := ⟨_, rfl⟩
  have hb1 : Below w.heap.size w w1 := by rw [hw1]; exact balloc (Below.refl _ _) _
  have r1 : rowV w1 w.heap.size 23 #[.slice A n c] := by rw [hw1]; exact rowV.new w _ _
  have HB1 := Lib.hid hb1
  have HW1 := Lib.hid hw1
  have q1 : w1.cell? ⟨w.heap.size, 0, none⟩ = some (.slice A n c) := r1.cell rfl
  have s1 : w1.heap.size = w.heap.size + 1 := by rw [hw1, World.size_alloc]
  have HS1 := Lib.hid s1
  by_cases h0 : limD n wd = 0
  · rw [if_pos h0]
    rw [h0] at H1 ⊢
    obtain ⟨wn, rfl⟩ : ∃ wn : Nat, wd = (wn : Int) := ⟨wd.toNat, by unfold limD at h0; split at h0; (cases h0); split at h0; (cases h0); omega⟩
    have hw : 1 ≤ wn ∧ wn ≤ 64 := by unfold limD at h0; split at h0; (cases h0); split at h0; (cases h0); omega
    have hn6 : n ≤ 65536 := by unfold limD at h0; split at h0; (cases h0); omega
    rw [Int.toNat_natCast]
    clear h0 hb1 hw1 r1 s1
    have HLl := Lib.hid (colL_length (n := n) hw.1)
    have q2 : (w1.alloc (.cells #[.slice none 0 0] 23)).cell? ⟨w.heap.size, 0, none⟩ = some (.slice A n c) := by
      have hb := balloc (Below.refl w1.heap.size w1) (.cells #[.slice none 0 0] 23)
      exact (hb.cell (p := ⟨w.heap.size, 0, none⟩) (World.block_lt_of_cell? w1 _ q1)).trans q1
    obtain ⟨w2, hw2⟩ : ∃ w2, w2 = w1.alloc (.cells #[.slice none 0 0] 23) := ⟨_, rfl⟩
    have s2 : w2.heap.size = w.heap.size + 2 := by rw [hw2, World.size_alloc, HS1.out]
    obtain ⟨w4, hw4⟩ : ∃ w4, w4 = (w2.alloc (.cells #[.int .i64 (n : Int)] 3)).alloc (.cells #[.int .i64 (wn : Int)] 3) := ⟨_, rfl⟩
    have HO := order_any n wn w2
    rw [← hw4, s2] at HO
    obtain ⟨hI0, hs4⟩ := col_start (w := w) (w4 := w4) (A := A) (n := n) (c := c) (wd := wn) (by rw [hw4, hw2, HW1.out])
    have HO := Lib.hid HO
    have HW2 := Lib.hid hw2
    have Hs4 := Lib.hid hs4
    have HI0 := Lib.hid hI0
    have HFX := Lib.hid (col_fx w A n c wn)
    have HX := Lib.hid hx
    clear hw2 s2 hw4 hI0 hs4 hx
    refine calls_of_marks Tryz.func30 rfl ?_
    simp only [Tryz.ntmps30, List.size_toArray, List.length_cons, List.length_nil, Nat.reduceAdd, Nat.reduceSub, Array.replicate_succ, Array.replicate_zero, List.push_toArray, List.append_toArray, List.nil_append, List.cons_append]
    go_wp2_with fail
    rw [← HW1.out]
    refine (H1.out _).mono ?_
    rintro e wq ⟨rfl, hq⟩
    obtain rfl := hq.symm
    go_wp2_with fail
    rw [HS1.out, ← HW2.out]
    refine HO.out.mono ?_
    rintro e w5 ⟨rfl, hq⟩
    obtain rfl := hq.symm
    clear q1 q2 HO H1
    go_wp2_with fail
    refine wp_rangeFunc_one (G := fun u t => (t.setIfInBounds 20 u).setIfInBounds 8 u) (u := fun k => .int .i64 ((oN (colL n wn) k : Nat) : Int)) rfl (Go.Proofs.enters_of Tryz.func131 (by kernel_rfl) rfl) (order1_gives n wn hn hw.1 hw.2 (w.heap.size + 3) (w.heap.size + 2))
      (fun o1 o2 => ⟨Boxed.alloc (Boxed.alloc (HI0.out.fix (w.heap.size + 3, _) (by simp)) _) _, Boxed.alloc (Boxed.alloc (HI0.out.fix (w.heap.size + 2, _) (by simp)) _) _⟩)
      (fun X Y hab => by subst hab; exact KeepsFrom.refl _ _)
      (fun h1 h2 => ⟨h2.1.trans h1.1, h2.2.trans h1.2⟩)
      (fun W l o o' hl hlo ho => ⟨World.putObj_heap_other (by rw [Hs4.out] at hl; omega), World.putObj_heap_other (by rw [Hs4.out] at hl; omega)⟩)
      (fun k => InvB w (w.heap.size + 4) (w.heap.size + 1) [(w.heap.size, .cells #[.slice A n c] 23), (w.heap.size + 2, .cells #[.int .i64 (n : Int)] 3), (w.heap.size + 3, .cells #[.int .i64 (wn : Int)] 3)] (gathT bs (colL n wn) k)) (fun _ _ _ => False) ?hI (fun _ _ _ _ _ h _ _ => h.elim) (fun k X Y h hab => by subst hab; exact h) (fun _ _ _ _ h _ => h.elim) HI0.out ?assign ?body ?done (fun _ _ _ _ _ _ h _ => h.elim)
    case hI => exact fun s W W' row h hg hr => h.kept HFX.out (by omega) (by omega) hg (fun r e => by have := (hr r e).1; rw [Hs4.out] at this; exact this) (fun r o e ho => by obtain ⟨o', h1, h2⟩ := (hr r e).2; rw [ho] at h1; injection h1 with h1; subst h1; exact h2)
    case assign =>
      intro l k W K hK
      simp only [List.setIfInBounds_toArray, List.set_cons_succ, List.set_cons_zero] at hK ⊢
      gi_wp2
      exact hK
    case done =>
      intro D W hD hI hdef
      rw [Hs4.out] at hD
      obtain ⟨hfix, ⟨A2, n2, c2, hob, hown⟩, hbelW, hsW⟩ := hI
      have q1 := hob.cell
      have hR : Hid (gathT bs (colL n wn) (colL n wn).length = columnsF wn bs) := by show _ = _; unfold gathT columnsF; rw [List.take_length, Hn.out]
      go_wp2_with fail
      refine markPost_mark hdef (v := .tuple #[.slice A2 n2 c2, .int .i64 0]) (fun W => by simp [results, Tryz.results30, go_sem]) rfl ?_
      rw [hR.out] at hown
      refine RetBytes.mk rfl (Own.bytesB (B := w.heap.size + 4) (e := 5) ?_) (hbelW.grown (grownBy_putObj' W D _) hbelW.size (fun k e => by cases e; omega))
      exact own_keepT hown fun g cur hB ho => (World.putObj_heap_other (fun e => by subst e; rw [hdef] at ho; injection ho with ho; cases ho)).trans ho
    case body =>
      intro l k W hk hl hI
      have HI := Lib.hid hI
      obtain ⟨hfix, ⟨A2, n2, c2, hob, hown⟩, hbelW, hsW⟩ := hI
      simp only [List.setIfInBounds_toArray, List.set_cons_succ, List.set_cons_zero]
      have hon : oN (colL n wn) k < n := oN_lt hw.1 (by rw [HLl.out] at hk; exact hk)
      have hn2 : n2 = k := by rw [← hown.length]; unfold gathT; rw [List.length_map, List.length_take]; omega
      rw [HLl.out] at hk
      have hgn := gath_next (bs := bs) (l := colL n wn) (k := k) (by rw [HLl.out]; exact hk)
      have m1 : Hid (n2 + 1 ≤ maxLen ∧ (n2 + 1) * 1 ≤ 140737488355328) := ⟨by simp [maxLen]; omega, by omega⟩
      obtain ⟨b, off, rfl, hbl, -⟩ := HX.out.2.2 (by omega)
      have hbv : Hid (encB (bA bs (oN (colL n wn) k)) = .int .u8 (gb bs (oN (colL n wn) k))) := rfl
      have facts : Hid (∀ W1, Below W.heap.size W W1 → W1.cell? ⟨w.heap.size, 0, none⟩ = some (.slice (some ⟨b, off, none⟩) n c) ∧ W1.cell? ⟨w.heap.size + 1, 0, none⟩ = some (.slice A2 n2 c2) ∧ W1.frozen? ⟨w.heap.size + 1, 0, none⟩ = false ∧ W1.cell? ⟨b, off + oN (colL n wn) k, none⟩ = some (.int .u8 (gb bs (oN (colL n wn) k))) ∧ Own encB W1 (w.heap.size + 4) 5 A2 n2 c2 (gathT bs (colL n wn) k) ∧ w.heap.size + 4 ≤ W1.heap.size) := fun W1 hb => by
        have t1 : rowV W1 w.heap.size 23 #[.slice (some ⟨b, off, none⟩) n c] := (hb.block _ (by omega)).trans (hfix (w.heap.size, _) (by simp))
        have t2 : Boxed W1 (w.heap.size + 1) 23 (.slice A2 n2 c2) := (hb.block _ (by omega)).trans hob
        exact ⟨t1.cell rfl, t2.cell, t2.frozen, ((HX.out.below hbelW).below hb).cell hon, hown.below hb, by have := hb.size; omega⟩
      have fin : Hid (∀ (W1 W6 : World) (A6 : Option Addr) (c6 : Nat), Below W.heap.size W W1 → W1.grownBy W6 (Value.slice A2 n2 c2).ownBlock → Own encB W6 (w.heap.size + 4) 5 A6 (n2 + 1) c6 (gathT bs (colL n wn) k ++ [bA bs (oN (colL n wn) k)]) → W6.cell? ⟨w.heap.size + 1, 0, none⟩ = some (.slice A2 n2 c2) ∧ W6.frozen? ⟨w.heap.size + 1, 0, none⟩ = false ∧
          (KeepsFrom (w.heap.size + 4) W (W6.setCell ⟨w.heap.size + 1, 0, none⟩ (.slice A6 (n2 + 1) c6)) ∧ twoKp (w.heap.size + 3) (w.heap.size + 2) W (W6.setCell ⟨w.heap.size + 1, 0, none⟩ (.slice A6 (n2 + 1) c6)) ∧ InvB w (w.heap.size + 4) (w.heap.size + 1) [(w.heap.size, .cells #[.slice (some ⟨b, off, none⟩) n c] 23), (w.heap.size + 2, .cells #[.int .i64 (n : Int)] 3), (w.heap.size + 3, .cells #[.int .i64 (wn : Int)] 3)] (gathT bs (colL n wn) (k + 1)) (W6.setCell ⟨w.heap.size + 1, 0, none⟩ (.slice A6 (n2 + 1) c6)))) := fun W1 W6 A6 c6 hb hg ho => by
        have t2 : Boxed W1 (w.heap.size + 1) 23 (.slice A2 n2 c2) := (hb.block _ (by omega)).trans hob
        have t6 : Boxed W6 (w.heap.size + 1) 23 (.slice A2 n2 c2) := t2.kept hg (fun e => by
          obtain ⟨_, cur, hc⟩ := blk_type (hown.below hb) e.symm
          unfold Boxed at t2
          rw [t2] at hc
          injection hc with hc
          injection hc with _ hc
          exact absurd hc (by decide))
        rw [← hgn] at ho
        obtain ⟨f1, f2, f3⟩ := HI.out.step HFX.out (by omega) (by omega) hb hob hown hg ho
        exact ⟨t6.cell, t6.frozen, f1, ⟨f2 (w.heap.size + 3, _) (List.mem_cons_of_mem _ (List.mem_cons_of_mem _ (List.mem_cons_self ..))), f2 (w.heap.size + 2, _) (List.mem_cons_of_mem _ (List.mem_cons_self ..))⟩, f3⟩
      obtain ⟨io, hio⟩ : ∃ io, io = oN (colL n wn) k := ⟨_, rfl⟩
      obtain ⟨yv, hyv⟩ : ∃ yv, yv = gb bs io := ⟨_, rfl⟩
      obtain ⟨y, hy⟩ : ∃ y, y = bA bs io := ⟨_, rfl⟩
      rw [← hio] at facts fin hbv hon ⊢
      rw [← hyv] at facts hbv
      rw [← hy] at fin hbv
      clear hio hyv hy hfix hob hown HI hgn hn2
      gi_wp2
      refine wpIn_region_orders [[0, 1, 2, 3, 4, 5, 6, 7], [0, 2, 1, 3, 4, 5, 6, 7], [1, 0, 2, 3, 4, 5, 6, 7], [1, 2, 0, 3, 4, 5, 6, 7], [1, 2, 3, 0, 4, 5, 6, 7], [1, 2, 3, 4, 0, 5, 6, 7], [1, 2, 3, 4, 5, 0, 6, 7], [2, 0, 1, 3, 4, 5, 6, 7], [2, 1, 0, 3, 4, 5, 6, 7], [2, 1, 3, 0, 4, 5, 6, 7], [2, 1, 3, 4, 0, 5, 6, 7], [2, 1, 3, 4, 5, 0, 6, 7]] (by kernel_rfl) (by kernel_rfl) ?_
      intro W0 hW0
      have hb0 : Below W.heap.size W W0 := by rw [hW0]; exact (Drawn.drewN W 1).below _
      have hb1 : Below W.heap.size W (W0.alloc (.cells #[.int .u8 yv] 5)) := balloc hb0 _
      obtain ⟨x1, x2, x3, x4, x5, x6⟩ := facts.out W0 hb0
      obtain ⟨y1, y2, y3, y4, -, -⟩ := facts.out _ hb1
      clear hW0
      refine List.forall_mem_cons.2 ⟨?_, List.forall_mem_cons.2 ⟨?_, List.forall_mem_cons.2 ⟨?_, List.forall_mem_cons.2 ⟨?_, List.forall_mem_cons.2 ⟨?_, List.forall_mem_cons.2 ⟨?_, List.forall_mem_cons.2 ⟨?_, List.forall_mem_cons.2 ⟨?_, List.forall_mem_cons.2 ⟨?_, List.forall_mem_cons.2 ⟨?_, List.forall_mem_cons.2 ⟨?_, List.forall_mem_cons.2 ⟨?_, fun _ h => nomatch h⟩⟩⟩⟩⟩⟩⟩⟩⟩⟩⟩⟩
      all_goals
        simp only [List.filterMap_cons, List.filterMap_nil, List.getElem?_toArray, List.getElem?_cons_zero, List.getElem?_cons_succ]
        change wpListIn _ _ _ _ _ [_, _, _, _, _, _, _, _] _ _
        gi_wp2_with (gi_at_builtin; refine wpListIn_pushg (enc := encB) rfl (.tmp 21) (.tmp 26) rfl uB infoB encB_one rfl rfl x5 x6 y _ hbv.out rfl m1.out.1 m1.out.2 ?_; intro A6 c6 W6 ho6 hk6; obtain ⟨z1, z2, z3⟩ := fin.out W0 W6 A6 c6 hb0 hk6 ho6)
        rw [Hs4.out]
        exact z3
  · rw [if_neg h0]
    have q0 : (limD n wd == 0) = false := by simpa using h0
    obtain ⟨ld, hld⟩ : ∃ ld, ld = limD n wd := ⟨_, rfl⟩
    rw [← hld] at H1 q0 ⊢
    clear hx hw1 hb1 r1 s1 hld h0
    refine calls_of_marks Tryz.func30 rfl ?_
    simp only [Tryz.ntmps30, List.size_toArray, List.length_cons, List.length_nil, Nat.reduceAdd, Nat.reduceSub, Array.replicate_succ, Array.replicate_zero, List.push_toArray, List.append_toArray, List.nil_append, List.cons_append]
    go_wp2_with fail
    rw [← HW1.out]
    refine (H1.out _).mono ?_
    rintro e wq ⟨rfl, hq⟩
    obtain rfl := hq.symm
    go_wp2_with fail
    refine markPost_ret (v := .tuple #[.slice none 0 0, .int .i64 ld]) (fun W => by simp [results, Tryz.results30, go_sem]) rfl ?_
    exact RetBytes.err rfl HB1.out
end Go.Proofs.YtohadkmaemmfgaaGreatDoor
namespace Go.Proofs.YtohadkmaemmfgaaGreatDoor
open Go.RowKit Go.Proofs
set_option linter.unusedVariables false
set_option linter.unusedSimpArgs false
attribute [local go_sem] Oper.semAt_some
theorem u8_beq (x k : UInt8) (z : Int) (hz : z = (k.toNat : Int)) : ((x.toNat : Int) == z) = decide (x = k) := by
  by_cases h : x = k
  · rw [decide_eq_true h, h, hz]; exact beq_self_eq_true _
  · rw [decide_eq_false h, beq_eq_false_iff_ne, hz]
    intro e
    exact h (UInt8.toNat_inj.1 (by omega))
theorem isOpcode_any (A : Option Addr) (n c i : Nat) (bs : List UInt8) (w : World) (hx : Bytes w A n c bs) (hn : n ≤ 1000000) (hi : i < n) :
    Calls Tryz.prog 202 #[.slice A n c, .int .i64 (i : Int)] w fun e w' => e = .returned (.bool (opC bs i)) ∧ w' = w := by
  obtain ⟨b, off, rfl, -, hc⟩ := hx.2.2 (by omega)
  have hcell : w.cell? ⟨b, off + i, none⟩ = some (.int .u8 ((bA bs i).toNat : Int)) := hc i hi
  have hl := hx.1
  have hcap := hx.2.1
  have HO : Hid (opC bs i = decide ((bA bs i = 232 ∨ bA bs i = 233) ∧ i + 5 ≤ n)) := by show _ = _; unfold opC; rw [hl]
  obtain ⟨x, hxx⟩ : ∃ x, x = bA bs i := ⟨_, rfl⟩
  rw [← hxx] at hcell HO
  have q1 := u8_beq x 232 232 rfl
  have q2 := u8_beq x 233 233 rfl
  clear hxx hc hx hl
  have hfin : ∀ (p q r : Bool), p = decide (x = 232) → q = decide (x = 233) → r = decide (i + 5 ≤ n) → opC bs i = ((p || q) && r) := by
    rintro p q r rfl rfl rfl
    rw [HO.out]
    simp only [Bool.decide_and, Bool.decide_or]
  have HF := Lib.hid hfin
  clear hfin HO
  have body : ∀ (p q r : Bool), p = decide (x = 232) → q = decide (x = 233) → r = decide (i + 5 ≤ n) → Calls Tryz.prog 202 #[.slice (some ⟨b, off, none⟩) n c, .int .i64 (i : Int)] w fun e w' => e = .returned (.bool (opC bs i)) ∧ w' = w := by
    intro p q r hp hq hr
    have hr2 : decide ((i : Int) + 5 ≤ (n : Int)) = r := by rw [hr]; exact decide_eq_decide.2 (by omega)
    have he := HF.out p q r hp hq hr
    rw [he]
    rw [← hp] at q1
    rw [← hq] at q2
    clear hp hq he HF hr
    cases p with
    | true =>
      cases r with
      | true =>
        go_enter Tryz.func202, Tryz.ntmps202
        go_wp2_with fail
        go_ret
        exact ⟨rfl, rfl⟩
      | false =>
        go_enter Tryz.func202, Tryz.ntmps202
        go_wp2_with fail
        go_ret
        exact ⟨rfl, rfl⟩
    | false =>
      cases q with
      | true =>
        cases r with
        | true =>
          go_enter Tryz.func202, Tryz.ntmps202
          go_wp2_with fail
          go_ret
          exact ⟨rfl, rfl⟩
        | false =>
          go_enter Tryz.func202, Tryz.ntmps202
          go_wp2_with fail
          go_ret
          exact ⟨rfl, rfl⟩
      | false =>
        go_enter Tryz.func202, Tryz.ntmps202
        go_wp2_with fail
        go_ret
        exact ⟨rfl, rfl⟩
  exact body _ _ _ rfl rfl rfl
theorem sites_any (A : Option Addr) (n c : Nat) (w : World) : Calls Tryz.prog 132 #[.slice A n c] w fun e w' => e = .returned (.func (.func 201) #[] #[.pointer (some ⟨w.heap.size, 0, none⟩)]) ∧ w' = w.alloc (.cells #[.slice A n c] 23) := by
  go_enter Tryz.func132, Tryz.ntmps132
  go_wp2_with fail
  go_ret
  exact ⟨rfl, rfl⟩
def siteRow (bs : List UInt8) (k : Nat) : Array Value := #[.int .i64 ((oN (sitesC bs) k : Nat) : Int)]
def oneKp (n0 b1 : Nat) (X Y : World) : Prop := Y.heap[b1]? = X.heap[b1]? ∧ Below n0 X Y
theorem sites1_gives (w0 : World) (A : Option Addr) (n c : Nat) (bs : List UInt8) (hx : Bytes w0 A n c bs) (hn : n ≤ 1000000) (b1 : Nat) (hb1 : w0.heap.size ≤ b1) :
    Gives Tryz.prog 201 #[.pointer (some ⟨b1, 0, none⟩)] (siteRow bs) (sitesC bs).length Eq (oneKp w0.heap.size b1)
      (fun W => Boxed W b1 23 (.slice A n c) ∧ Below w0.heap.size w0 W) := by
  intro l J Jx W ⟨hbox1, hbel⟩ hJ hJx hY h0
  have HY := Lib.hid hY; clear hY
  have HX := Lib.hid hx
  have Hl := Lib.hid hx.1
  have q1 := hbox1.cell
  refine callsIn_of_wp Tryz.func201 rfl trivial ?_ rfl
  simp only [Tryz.ntmps201, List.size_toArray, List.length_cons, List.length_nil, Nat.reduceAdd, Nat.reduceSub, Array.replicate_succ, Array.replicate_zero, List.push_toArray, List.append_toArray, List.nil_append, List.cons_append]
  clear hx
  gi_wp2
  gi_loopw [3, 4] (fun i _ wr => ∃ k iq : Nat, i = .int .i64 (iq : Int) ∧ iq ≤ n + 5 ∧ k ≤ (sitesC bs).length ∧ J k wr ∧ Boxed wr b1 23 (.slice A n c) ∧ Below w0.heap.size w0 wr ∧ Hid ((sitesC bs).drop k = siteC bs iq)) (fun i _ _ => n - (intOf i).toNat)
  case atStart => exact ⟨0, 0, rfl, by omega, Nat.zero_le _, h0, hbox1, hbel, Lib.hid (by rw [List.drop_zero]; rfl)⟩
  case round =>
    obtain ⟨k, iq, rfl, hiq, hk, hJk, hbx, hbelk, HD⟩ := hrel
    clear q1 hbox1 h0 hbel
    have q1 := hbx.cell
    by_cases hin : iq < n
    · have d0 : decide ((iq : Int) < (n : Int)) = true := decide_eq_true (by omega)
      have d0' : decide (iq < n) = true := decide_eq_true hin
      have hbyt := HX.out.below hbelk
      have HC := Lib.hid (isOpcode_any A n c iq bs wr hbyt hn hin)
      have hil : iq < bs.length := by rw [Hl.out]; exact hin
      cases ho : opC bs iq with
      | false =>
        rw [ho] at HC
        have HDn : Hid ((sitesC bs).drop k = siteC bs (iq + 1)) := by show _ = _; rw [HD.out, siteC_no hil ho]
        clear HD hbyt ho
        gi_wp2_with (refine ⟨trivial, ?_⟩; gi_at_call 202; refine (callsIn_wide.2 HC.out).mono ?_; rintro e w1 ⟨rfl, hw1⟩; obtain rfl : wr = w1 := hw1.symm)
        go_roundw
        case rel => exact ⟨k, iq + 1, by go_num, by omega, hk, hJk, hbx, hbelk, HDn⟩
        case measure => (simp [intOf]) <;> omega
      | true =>
        rw [ho] at HC
        have h5 : iq + 5 ≤ n := by have := (of_decide_eq_true ho).2; rw [Hl.out] at this; exact this
        obtain ⟨b, off, rfl, -, hcc⟩ := hbyt.2.2 (by omega)
        have hc4 : wr.cell? ⟨b, off + (iq + 4), none⟩ = some (.int .u8 ((bA bs (iq + 4)).toNat : Int)) := hcc (iq + 4) (by omega)
        have HH : Hid (hiC bs iq = decide (bA bs (iq + 4) = 0 ∨ bA bs (iq + 4) = 255)) := rfl
        obtain ⟨x, hxx⟩ : ∃ x, x = bA bs (iq + 4) := ⟨_, rfl⟩
        rw [← hxx] at hc4 HH
        have p1 := u8_beq x 0 0 rfl
        have p2 := u8_beq x 255 255 rfl
        clear hxx
        cases hp : decide (x = 0) with
        | true =>
          have hq : True := trivial
          rw [hp] at p1
          have hx0 := of_decide_eq_true hp
          have hh : hiC bs iq = true := by rw [HH.out]; exact decide_eq_true (.inl hx0)
          have hdq := HD.out
          rw [siteC_hit hil ho hh] at hdq
          obtain ⟨hkl, hoN, hdn⟩ := oN_drop hdq
          have hy0 := HY.out k wr hkl hJk
          unfold siteRow at hy0
          rw [hoN] at hy0
          have HDn := Lib.hid hdn
          clear hx0 hdq hoN hdn HD HH hh hbyt hp hq ho hcc
          obtain ⟨fn, tmps, assign, body, hy, hR⟩ := hy0
          gi_wp2_with (refine ⟨trivial, ?_⟩; gi_at_call 202; refine (callsIn_wide.2 HC.out).mono ?_; rintro e w1 ⟨rfl, hw1⟩; obtain rfl : wr = w1 := hw1.symm)
          refine hR.mono ?_
          rintro e W3 (⟨rfl, hJ3, hk3⟩ | ⟨rfl, hJx3⟩)
          · have hbx3 : Boxed W3 b1 23 (.slice (some ⟨b, off, none⟩) n c) := hk3.1.trans hbx
            have hbel3 := hbelk.trans hk3.2
            clear hR hy
            gi_wp2
            go_roundw
            case rel => exact ⟨k + 1, iq + 5, by go_num, by omega, hkl, hJ3, hbx3, hbel3, HDn⟩
            case measure => (simp [intOf]) <;> omega
          · clear hR hy
            gi_wp2
            refine bodyPost_ret (results_none rfl _ _ _) rfl ?_
            exact ⟨⟨_, rfl⟩, .inr ⟨k + 1, hkl, hJx3⟩⟩
        | false =>
          rw [hp] at p1
          cases hq : decide (x = 255) with
          | true =>
            rw [hq] at p2
            have hx0 := of_decide_eq_true hq
            have hh : hiC bs iq = true := by rw [HH.out]; exact decide_eq_true (.inr hx0)
            have hdq := HD.out
            rw [siteC_hit hil ho hh] at hdq
            obtain ⟨hkl, hoN, hdn⟩ := oN_drop hdq
            have hy0 := HY.out k wr hkl hJk
            unfold siteRow at hy0
            rw [hoN] at hy0
            have HDn := Lib.hid hdn
            clear hx0 hdq hoN hdn HD HH hh hbyt hp hq ho hcc
            obtain ⟨fn, tmps, assign, body, hy, hR⟩ := hy0
            gi_wp2_with (refine ⟨trivial, ?_⟩; gi_at_call 202; refine (callsIn_wide.2 HC.out).mono ?_; rintro e w1 ⟨rfl, hw1⟩; obtain rfl : wr = w1 := hw1.symm)
            refine hR.mono ?_
            rintro e W3 (⟨rfl, hJ3, hk3⟩ | ⟨rfl, hJx3⟩)
            · have hbx3 : Boxed W3 b1 23 (.slice (some ⟨b, off, none⟩) n c) := hk3.1.trans hbx
              have hbel3 := hbelk.trans hk3.2
              clear hR hy
              gi_wp2
              go_roundw
              case rel => exact ⟨k + 1, iq + 5, by go_num, by omega, hkl, hJ3, hbx3, hbel3, HDn⟩
              case measure => (simp [intOf]) <;> omega
            · clear hR hy
              gi_wp2
              refine bodyPost_ret (results_none rfl _ _ _) rfl ?_
              exact ⟨⟨_, rfl⟩, .inr ⟨k + 1, hkl, hJx3⟩⟩
          | false =>
            rw [hq] at p2
            have hh : hiC bs iq = false := by rw [HH.out]; exact decide_eq_false (by rintro (e | e); exact of_decide_eq_false hp e; exact of_decide_eq_false hq e)
            have HDn : Hid ((sitesC bs).drop k = siteC bs (iq + 5)) := by show _ = _; rw [HD.out, siteC_skip hil ho hh]
            clear HD HH hh hbyt hp hq ho hcc
            gi_wp2_with (refine ⟨trivial, ?_⟩; gi_at_call 202; refine (callsIn_wide.2 HC.out).mono ?_; rintro e w1 ⟨rfl, hw1⟩; obtain rfl : wr = w1 := hw1.symm)
            refine ⟨fun _ h => (nomatch h), ?_⟩
            gi_wp2
            go_roundw
            case rel => exact ⟨k, iq + 5, by go_num, by omega, hk, hJk, hbx, hbelk, HDn⟩
            case measure => (simp [intOf]) <;> omega
    · have d0 : decide ((iq : Int) < (n : Int)) = false := decide_eq_false (by omega)
      have d0' : decide (iq < n) = false := decide_eq_false hin
      have hkl : k = (sitesC bs).length := drop_nil (by rw [HD.out, siteC_end (by rw [Hl.out]; omega)]) hk
      gi_wp2
      go_end0
      exact ⟨⟨_, rfl⟩, .inl (hkl ▸ hJk)⟩
end Go.Proofs.YtohadkmaemmfgaaGreatDoor
namespace Go.Proofs.YtohadkmaemmfgaaGreatDoor
open Go.RowKit Go.Proofs
set_option linter.unusedVariables false
set_option linter.unusedSimpArgs false
def tokV (t : Tok) : Array Value := #[.int .i64 (t.len : Int), .int .i64 (t.dst : Int), .int .u8 (t.byt.toNat : Int)]
def TokLim (t : Tok) : Prop := t.len ≤ 1000000 ∧ t.dst ≤ 1000000
theorem in_any (n lo hi : Int) (w : World) : Calls Tryz.prog 265 #[.int .i64 n, .int .i64 lo, .int .i64 hi] w fun e w' => e = .returned (.bool (decide (lo ≤ n ∧ n ≤ hi))) ∧ w' = w := by
  by_cases h1 : lo ≤ n
  · have d1 : decide (lo ≤ n) = true := decide_eq_true h1
    by_cases h2 : n ≤ hi
    · have d2 : decide (n ≤ hi) = true := decide_eq_true h2
      rw [decide_eq_true (And.intro h1 h2)]
      clear h1 h2
      go_enter Tryz.func265, Tryz.ntmps265
      go_wp2_with fail
      go_ret
      exact ⟨rfl, rfl⟩
    · have d2 : decide (n ≤ hi) = false := decide_eq_false h2
      rw [decide_eq_false (fun h => h2 h.2)]
      clear h1 h2
      go_enter Tryz.func265, Tryz.ntmps265
      go_wp2_with fail
      go_ret
      exact ⟨rfl, rfl⟩
  · have d1 : decide (lo ≤ n) = false := decide_eq_false h1
    rw [decide_eq_false (fun h => h1 h.1)]
    clear h1
    go_enter Tryz.func265, Tryz.ntmps265
    go_wp2_with fail
    go_ret
    exact ⟨rfl, rfl⟩
theorem common_any (A : Option Addr) (n c at_ d : Nat) (bs : List UInt8) (w : World) (hx : Bytes w A n c bs) (hn : n ≤ 1000000) (ha : at_ < n) (hd : 1 ≤ d) (hda : d ≤ at_) :
    Calls Tryz.prog 295 #[.slice A n c, .int .i64 (at_ : Int), .int .i64 (d : Int)] w fun e w' => e = .returned (.int .i64 ((cmn bs at_ d : Nat) : Int)) ∧ Drawn w w' := by
  obtain ⟨b, off, rfl, -, -⟩ := hx.2.2 (by omega)
  have HCC : Hid (∀ wr, Drawn w wr → ∀ j, j < n → wr.cell? ⟨b, off + j, none⟩ = some (.int .u8 ((bA bs j).toNat : Int))) := fun wr hdr j hj => by
    obtain ⟨b', off', e, -, hcc⟩ := (hx.below (hdr.below _)).2.2 (by omega)
    injection e with e
    injection e with e1 e2
    subst e1 e2
    exact hcc j hj
  have hl := hx.1
  have HC0 : Hid (cmn bs at_ d = cmF bs at_ d 0) := rfl
  clear hx
  go_enter Tryz.func295, Tryz.ntmps295
  go_wp2
  go_loopw [7] (fun nn wr => ∃ m : Nat, nn = .int .i64 (m : Int) ∧ m ≤ 255 ∧ at_ + m ≤ n ∧ Hid (cmF bs at_ d m = cmn bs at_ d) ∧ Drawn w wr) (fun nn _ => 256 - (intOf nn).toNat)
  case atStart => exact ⟨0, rfl, by omega, by omega, Lib.hid HC0.out.symm, Drawn.refl _⟩
  case round =>
    obtain ⟨m, rfl, hm, hmn, HM, hdr⟩ := hrel
    have HDR := Lib.hid hdr
    by_cases h1 : m < 255
    · have d1 : decide ((m : Int) < 255) = true := decide_eq_true (by omega)
      have d1' : decide (m < 255) = true := decide_eq_true h1
      obtain ⟨p, hp⟩ : ∃ p, p = at_ + m := ⟨_, rfl⟩
      obtain ⟨q, hq⟩ : ∃ q, q = p - d := ⟨_, rfl⟩
      have e1 : (at_ : Int) + (m : Int) = (p : Int) := by omega
      have e2 : (p : Int) - (d : Int) = (q : Int) := by omega
      by_cases h2 : p < n
      · have d2 : decide ((p : Int) < (n : Int)) = true := decide_eq_true (by omega)
        have d2' : decide (p < n) = true := decide_eq_true h2
        have hqn : q < n := by omega
        have y1 := HCC.out wr hdr p h2
        have y2 := HCC.out wr hdr q hqn
        have HP : Hid (p = at_ + m) := hp
        clear hdr
        by_cases h3 : bA bs p = bA bs q
        · have HN : Hid (cmF bs at_ d (m + 1) = cmn bs at_ d) := by
            show _ = _
            rw [← HM.out, cmF_more ⟨h1, by rw [hl, ← hp]; exact h2, by rw [← hp, show p - d = q from hq.symm]; exact h3⟩]
          rw [h3] at y1
          obtain ⟨y, hy⟩ : ∃ y, y = bA bs q := ⟨_, rfl⟩
          rw [← hy] at y1 y2
          have q0 : ((y.toNat : Int) == (y.toNat : Int)) = true := beq_self_eq_true _
          clear hy h3 hp hq
          go_wp2
          go_quiet (fail)
          go_wp2
          go_roundw
          case rel => exact ⟨m + 1, by go_num, by omega, by have := HP.out; omega, HN, HDR.out.trans (Drawn.drewN _ _)⟩
          case measure => (simp [intOf]) <;> omega
        · have HN : Hid (m = cmn bs at_ d) := by
            show _ = _
            rw [← HM.out, cmF_end (fun h => h3 (by rw [hq, hp]; exact h.2.2))]
          have q0 : (((bA bs p).toNat : Int) == ((bA bs q).toNat : Int)) = false := by
            rw [beq_eq_false_iff_ne]
            exact fun e => h3 (UInt8.toNat_inj.1 (by omega))
          obtain ⟨y, hy⟩ : ∃ y, y = bA bs q := ⟨_, rfl⟩
          obtain ⟨x, hxx⟩ : ∃ x, x = bA bs p := ⟨_, rfl⟩
          rw [← hxx] at y1 q0
          rw [← hy] at y2 q0
          clear hy hxx h3 hp hq
          go_wp2
          go_quiet (fail)
          go_wp2
          go_ret
          rw [← HN.out]
          exact ⟨rfl, HDR.out.trans (Drawn.drewN _ _)⟩
      · have d2 : decide ((p : Int) < (n : Int)) = false := decide_eq_false (by omega)
        have d2' : decide (p < n) = false := decide_eq_false h2
        have HN : Hid (m = cmn bs at_ d) := by
          show _ = _
          rw [← HM.out, cmF_end (fun h => h2 (by have := h.2.1; rw [hl] at this; omega))]
        clear hp hq h2 hdr
        go_wp2
        go_quiet (fail)
        go_wp2
        go_ret
        rw [← HN.out]
        exact ⟨rfl, HDR.out.trans (Drawn.drewN _ _)⟩
    · have d1 : decide ((m : Int) < 255) = false := decide_eq_false (by omega)
      have d1' : decide (m < 255) = false := decide_eq_false h1
      have HN : Hid (m = cmn bs at_ d) := by
        show _ = _
        rw [← HM.out, cmF_end (fun h => h1 h.1)]
      clear h1 hdr
      go_wp2
      go_quiet (fail)
      go_wp2
      go_ret
      rw [← HN.out]
      exact ⟨rfl, HDR.out.trans (Drawn.drewN _ _)⟩
end Go.Proofs.YtohadkmaemmfgaaGreatDoor
