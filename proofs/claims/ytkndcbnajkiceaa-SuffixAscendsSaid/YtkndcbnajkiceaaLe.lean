/- The walk of the law SuffixAscends. -/
import Derived.Test.YtkndcbnajkiceaaLa
import Derived.Lib.Bytealg
import Derived.Laws.Externs
namespace Go.Proofs.Ytkndcbnajkiceaa
open Go.RowKit Go.Proofs
set_option linter.unusedVariables false

theorem run_loadB {P : Program} {w : World} : ∀ (l : List UInt8) (a : Addr) (acc : List UInt8), (∀ j x, l[j]? = some x → w.cell? (a.add j) = some (.int .u8 x.toNat)) →
    (Extern.Bytes.loadBytes a l.length (strB acc)).run P w = .ok (strB (acc ++ l)) w
  | [], a, acc, _ => by simp [Extern.Bytes.loadBytes]
  | x :: l, a, acc, h => by
    have h0 := h 0 x rfl
    rw [show a.add 0 = a by simp [Addr.add]] at h0
    have ih := run_loadB (P := P) l (a.add 1) (acc ++ [x]) (fun j y hj => by
      have := h (j + 1) y (by simpa using hj)
      have e : (a.add 1).add j = a.add (j + 1) := by unfold Addr.add; by_cases hj : j = 0 <;> simp [hj, Nat.add_assoc, Nat.add_comm 1 j]
      rw [e]; exact this)
    have e : (strB acc).push (x.toNat : Int).toNat.toUInt8 = strB (acc ++ [x]) := by simp [strB, ByteArray.push]
    simp only [List.length_cons, Extern.Bytes.loadBytes, Sem.run_bind, run_load, h0, Result.andThen, e, ih]
    simp
theorem Bytes.of {P : Program} {w : World} {A : Option Addr} {n c : Nat} {bs : List UInt8} (hb : Bytes w A n c bs) : (Extern.Bytes.bytesOf (.slice A n c)).run P w = .ok (strB bs) w := by
  obtain ⟨hl, hnc, hcell⟩ := hb
  subst hl
  cases A with
  | none =>
    have : bs = [] := by
      cases bs with
      | nil => rfl
      | cons x xs => obtain ⟨b, off, h, _⟩ := hcell (by simp); cases h
    subst this
    rfl
  | some a =>
    have := run_loadB (P := P) (w := w) bs a [] (fun j x hj => by
      have hjl : j < bs.length := (List.getElem?_eq_some_iff.1 hj).1
      obtain ⟨b, off, h, _, hc⟩ := hcell (by omega)
      injection h with h
      subst h
      rw [addr_add, hc j hjl]
      simp [gb, List.getD, hj])
    rw [List.nil_append] at this
    show (Extern.Bytes.loadBytes a bs.length (strB [])).run P w = _
    exact this
theorem compareBytes_eq : ∀ x y : List UInt8, Lib.compareBytes x y = cmpL x y
  | [], [] => rfl
  | [], _ :: _ => rfl
  | _ :: _, [] => rfl
  | a :: x, b :: y => by
    rw [Lib.compareBytes, cmpL, compareBytes_eq x y]
    by_cases e : a = b
    · subst e; simp
    · have hne : a.toNat ≠ b.toNat := fun h => e (UInt8.toNat_inj.1 h)
      rw [if_neg e]
      by_cases h : a.toNat < b.toNat
      · simp [UInt8.lt_iff_toNat_lt, h]
      · have h' : b.toNat < a.toNat := by omega
        simp [UInt8.lt_iff_toNat_lt, h, h']
theorem run_cmp {w : World} {A B : Option Addr} {n c m d : Nat} {xs ys : List UInt8} (hx : Bytes w A n c xs) (hy : Bytes w B m d ys) :
    (callFunc 40 #[.slice A n c, .slice B m d]).run Try.prog w = .ok (.value (.int .i64 (cmpL xs ys))) w := by
  rw [run_callFunc_extern Try.func40 (by kernel_rfl) (by kernel_rfl) (by kernel_rfl) (e := Extern.BytealgCompare.compare) (by kernel_rfl)]
  have : (Extern.BytealgCompare.compare #[.slice A n c, .slice B m d]).run Try.prog w = .ok (.int .i64 (cmpL xs ys)) w := by
    change Sem.run Try.prog (do pure (goInt (Extern.BytealgCompare.cmp (← Extern.Bytes.bytesOf (.slice A n c)) (← Extern.Bytes.bytesOf (.slice B m d))))) w = _
    simp only [Sem.run_bind, Bytes.of hx, Bytes.of hy, Result.andThen, Sem.run_pure]
    rw [Lib.cmp_eq]
    show Result.ok (Value.int .i64 (Lib.compareBytes (strB xs).data.toList (strB ys).data.toList)) w = _
    rw [compareBytes_eq]
    rfl
  rw [this]
  rfl

set_option maxHeartbeats 400000 in
theorem compareBy_any (A B : Option Addr) (c d n m : Nat) (xs ys : List UInt8) (w : World) (hx : Bytes w A n c xs) (hy : Bytes w B m d ys) :
    Calls Try.prog 22 #[.slice A n c, .slice B m d] w fun e w' => e = .returned (.int .i64 (cmpL xs ys)) ∧ w' = w := by
  have hr := run_cmp hx hy
  go_enter Try.func22, Try.ntmps22
  go_wp2
  go_ret
  exact ⟨rfl, rfl⟩

set_option maxRecDepth 100000 in
set_option maxHeartbeats 2000000 in
theorem suffixAscends_any (A : Option Addr) (c n : Nat) (bs : List UInt8) (w : World) (hx : Bytes w A n c bs) :
    Calls Try.prog 8 #[.slice A n c] w fun e w' => e = .returned (.bool true) ∧ Below w.heap.size w w' := by
  by_cases hn : 300 < n
  · have d0 : decide ((300 : Int) < (n : Int)) = true := by simp; omega
    go_enter Try.func8, Try.ntmps8
    go_wp2_with fail
    refine (awake_any _).mono ?_
    rintro e w1 ⟨rfl, hb1⟩
    go_wp2_with fail
    go_ret
    exact ⟨rfl, hb1⟩
  · have d0 : decide ((300 : Int) < (n : Int)) = false := by simp; omega
    have Hx := Lib.hid hx.1
    have h1 := sort_any A c n bs w hx (by omega)
    have H1 := Lib.hid h1; clear h1
    have hce := checkErr_sortL bs (by have := Hx.out; omega)
    have Hce := Lib.hid hce; clear hce
    have hrange : ∀ i, i < n + 1 → 0 ≤ gi (sortL bs) i ∧ gi (sortL bs) i ≤ n := fun i hi => by
      have := mem_sortL.1 (gi_mem (zs := sortL bs) (k := i) (by rw [sortL_length, Hx.out]; exact hi))
      rw [Hx.out] at this
      exact this
    have HR := Lib.hid hrange; clear hrange
    have hnd : ∀ i, i < n + 1 → gi (sortL bs) i ∉ (sortL bs).take i := fun i hi hm => by
      have hnd := ((permErr_zero_iff _).1 (sortL_perm bs)).2
      have hil : i < (sortL bs).length := by rw [sortL_length, Hx.out]; exact hi
      have e : sortL bs = (sortL bs).take i ++ (sortL bs).drop i := (List.take_append_drop i _).symm
      rw [e, List.nodup_append] at hnd
      exact hnd.2.2 _ hm _ (by rw [drop_gi hil]; simp) rfl
    have HN := Lib.hid hnd; clear hnd
    have hasc : ∀ i, i + 1 < n + 1 → cmpL (bs.drop (gi (sortL bs) i).toNat) (bs.drop (gi (sortL bs) (i + 1)).toNat) < 0 := fun i hi => by
      rw [cmpL_neg]
      have hl := sortL_length bs
      rw [Hx.out] at hl
      have := List.pairwise_iff_getElem.1 (sortL_sorted bs) i (i + 1) (by omega) (by omega) (by omega)
      rw [← gi_get, ← gi_get] at this
      exact this
    have HA := Lib.hid hasc; clear hasc
    have hmk := run_make_row (P := Try.prog) (enc := Value.bool) uL infoL rfl ((n : Int) + 1) (by omega) (by omega) (by omega)
    rw [show ((n : Int) + 1).toNat = n + 1 by omega] at hmk
    go_enter Try.func8, Try.ntmps8
    go_wp2_with fail
    refine H1.out.mono ?_
    rintro e w1 ⟨A1, n1, c1, rfl, hs1, hb1⟩
    have hl1 := hs1.1
    rw [sortL_length, Hx.out] at hl1
    subst hl1
    have hx1 := hx.below hb1
    clear H1
    have d1 : ((n : Int) + 1 != (n : Int) + 1) = false := by simp
    go_wp2_with fail
    go_loopw [6] (fun i wr => ∃ k : Nat, k ≤ n + 1 ∧ i = .int .i64 k ∧ Row Value.bool wr w1.heap.size 4 (seenL (sortL bs) (n + 1) k) ∧ Below w1.heap.size w1 wr) (fun i _ => n + 1 - (intOf i).toNat)
    case atStart => exact ⟨0, by omega, rfl, by rw [seenL_zero]; exact Row.new w1 _ _, (Below.refl _ _).alloc (Nat.le_refl _) _⟩
    case round =>
      obtain ⟨k, hk, rfl, hrow, hbel⟩ := hrel
      by_cases hlt : k < n + 1
      · have hlt' : Hid (k < (sortL bs).length) := by show _ < _; rw [sortL_length, Hx.out]; exact hlt
        have e0 : decide ((k : Int) < (n : Int) + 1) = true := by simp; omega
        have hbel2 := hbel.setCell (p := ⟨w1.heap.size, (gi (sortL bs) k).toNat, none⟩) (Nat.le_refl _) (Value.bool true)
        have hx2 := hx1.below hbel2
        obtain ⟨b, off, rfl, hb, hcell⟩ := (hs1.below hbel).get hlt
        have c1 := hcell k (by omega)
        clear hcell
        obtain ⟨a0, a1⟩ := HR.out k hlt
        have d2 : decide (gi (sortL bs) k < 0) = false := by simp; omega
        have d3 : decide ((n : Int) < gi (sortL bs) k) = false := by simp; omega
        have hz : (gi (sortL bs) k).toNat < n + 1 := by omega
        have c2 := hrow.cell (j := (gi (sortL bs) k).toNat) false (by rw [seenL_length]; exact hz)
        have f2 := hrow.frozen (gi (sortL bs) k).toNat
        have g2 := gt_seenL (zs := sortL bs) (n := n + 1) (k := k) a0 (by omega)
        unfold gt at g2
        rw [g2, decide_eq_false (HN.out k hlt)] at c2
        clear g2
        have hrow' := hrow.set (gi (sortL bs) k).toNat true
        rw [seenL_next hlt'.out a0 (by omega)] at hrow'
        have hs2 := hs1.below hbel2
        rcases Nat.eq_zero_or_pos k with h0 | h0
        · have d4 : decide ((0 : Int) < (k : Int)) = false := by simp; omega
          have d4' : decide (0 < k) = false := by simp; omega
          clear h0
          go_wp2_with fail
          go_quiet (fail)
          go_wp2_with fail
          go_roundw
          case rel => exact ⟨k + 1, by omega, by go_num, hrow'.drewN _, hbel2.trans ((Drawn.drewN _ _).below _)⟩
          case measure => simp [intOf]; omega
        · obtain ⟨j, rfl⟩ : ∃ j, k = j + 1 := ⟨k - 1, by omega⟩
          have d4 : decide ((0 : Int) < ((j + 1 : Nat) : Int)) = true := by simp <;> omega
          have d4' : decide ((0 : Int) < (j : Int) + 1) = true := by simp <;> omega
          obtain ⟨b0, b1⟩ := HR.out j (by omega)
          obtain ⟨A4, r4, v4⟩ := hx2.cut_l tB eB sB (gi (sortL bs) j) b0 b1
          obtain ⟨A5, r5, v5⟩ := hx2.cut_l tB eB sB (gi (sortL bs) (j + 1)) a0 a1
          obtain ⟨b', off', e', -, hcell⟩ := hs2.get (k := j) (by omega)
          injection e' with e'
          injection e' with e1 e2
          subst e1 e2
          have c3 := hcell j (by omega)
          have c4 := hcell (j + 1) (by omega)
          clear hcell
          have hneg := HA.out j (by omega)
          have d5 : decide (0 ≤ cmpL (bs.drop (gi (sortL bs) j).toNat) (bs.drop (gi (sortL bs) (j + 1)).toNat)) = false := by simp; omega
          clear hneg
          have hcal := fun q => compareBy_any _ _ _ _ _ _ _ _ _ (v4.drewN q) (v5.drewN q)
          have Hcal := Lib.hid hcal; clear hcal
          go_wp2_with fail
          go_quiet (first
            | (go_at_call 22; exact Calls.quiet_of_same (Hcal.out _)))
          go_wp2_with fail
          go_roundw
          case rel => exact ⟨j + 1 + 1, by omega, by go_num, hrow'.drewN _, hbel2.trans ((Drawn.drewN _ _).below _)⟩
          case measure => simp [intOf]; omega
      · have e0 : decide ((k : Int) < (n : Int) + 1) = false := by simp; omega
        clear hrow
        have hb1' := hb1.trans (hbel.mono hb1.size)
        have hx3 := hx1.below hbel
        have hs3 := hs1.below hbel
        clear hbel hb1 hx1 hs1
        go_wp2_with fail
        refine (awake_any _).mono ?_
        rintro e w5 ⟨rfl, hb5⟩
        have hcal := check_any _ _ _ _ _ _ _ _ _ (hx3.below hb5) (hs3.below hb5) (by omega) (by omega)
        rw [Hce.out] at hcal
        have Hcal := Lib.hid hcal; clear hcal
        go_wp2_with fail
        refine Hcal.out.mono ?_
        rintro e w6 ⟨rfl, hb6⟩
        go_wp2_with fail
        go_ret
        have hb5' := hb1'.trans (hb5.mono hb1'.size)
        exact ⟨rfl, hb5'.trans (hb6.mono hb5'.size)⟩
end Go.Proofs.Ytkndcbnajkiceaa
