/- Db. -/
import Derived.Test.YtohadkmaemmfgaaGreatDoorRA28
set_option maxRecDepth 100000
set_option maxHeartbeats 4000000
namespace Go.Proofs.YtohadkmaemmfgaaGreatDoor.Dic
open Go.RowKit Go.Proofs
set_option linter.unusedVariables false
attribute [local go_sem] Oper.semAt_some
def boxLen (bx : Nat) (W : World) : Nat := match W.cell? ⟨bx, 0, none⟩ with
  | some (.slice _ n _) => n
  | _ => 0
theorem boxLen_of {W : World} {bx : Nat} {t : TypeId} {A : Option Addr} {n c : Nat} (h : Boxed W bx t (.slice A n c)) : boxLen bx W = n := by unfold boxLen; rw [h.cell]
def pcRow (b off c : Nat) (bs : List UInt8) (k : Nat) : Array Value := #[.slice (some ⟨b, off + stP bs k, none⟩) (plen (bs.drop (stP bs k))) (c - stP bs k), .bool (wdP bs k)]
def pcAb (bx : Nat) (X Y : World) : Prop := X.grownBy Y (some bx)
def pcKp (n0 bx : Nat) (X Y : World) : Prop := Y.heap[bx]? = X.heap[bx]? ∧ Below n0 X Y
def pcBox (W : World) (bx b off c : Nat) (bs : List UInt8) (k : Nat) : Prop := ∃ Ak, Boxed W bx 23 (.slice Ak (bs.length - stP bs k) (c - stP bs k)) ∧ (0 < bs.length - stP bs k → Ak = some ⟨b, off + stP bs k, none⟩)
theorem pcBox_next {W : World} {bx b off c st m q p n k : Nat} {bs : List UInt8} {t : Value} {A' : Option Addr} (h : Boxed W bx 23 t) (hl : bs.length = n) (hm : m = n - st) (hq : q = c - st) (hnext : stP bs (k + 1) = st + p) (hpm : p ≤ m) (hA' : 0 < m - p → A' = some ⟨b, off + st + p, none⟩) :
    pcBox (W.setCell ⟨bx, 0, none⟩ (.slice A' (m - p) (q - p))) bx b off c bs (k + 1) := by
  refine ⟨A', ?_, ?_⟩
  · rw [hl, hnext, show n - (st + p) = m - p by omega, show c - (st + p) = q - p by omega]
    exact h.set _
  · intro h0
    rw [hl, hnext] at h0
    rw [hA' (by omega), hnext, Nat.add_assoc]
theorem pieces1_gives (w0 : World) (A : Option Addr) (n c : Nat) (bs : List UInt8) (hx : Bytes w0 A n c bs) (hn : n ≤ 1000000000) (bx b off : Nat) (hbx : w0.heap.size ≤ bx) (hA : 0 < n → A = some ⟨b, off, none⟩) :
    Gives Tryz.prog 203 #[.pointer (some ⟨bx, 0, none⟩)] (pcRow b off c bs) (piecesL bs).length (pcAb bx) (pcKp w0.heap.size bx)
      (fun W => Boxed W bx 23 (.slice A n c) ∧ Below w0.heap.size w0 W) := by
  intro l J Jx W ⟨hbox, hbel⟩ hJ hJx hY h0
  have HY := Lib.hid hY; clear hY
  have Hl := Lib.hid hx.1
  have hstart : pcBox W bx b off c bs 0 := ⟨A, by rw [Hl.out]; exact hbox, fun h => by rw [Hl.out] at h; exact hA h⟩
  clear hbox
  refine callsIn_of_wp Tryz.func203 rfl trivial ?_ rfl
  simp only [Tryz.ntmps203, List.size_toArray, List.length_cons, List.length_nil, Nat.reduceAdd, Nat.reduceSub, Array.replicate_succ, Array.replicate_zero, List.push_toArray, List.append_toArray, List.nil_append, List.cons_append]
  gi_wp2
  gi_loopw [3] (fun _ wr => ∃ k : Nat, k ≤ (piecesL bs).length ∧ J k wr ∧ pcBox wr bx b off c bs k ∧ Below w0.heap.size w0 wr) (fun _ wr => boxLen bx wr)
  case atStart => exact ⟨0, by omega, h0, hstart, hbel⟩
  case round =>
    obtain ⟨k, hk, hJk, ⟨Ak, hbk, hAk⟩, hbelk⟩ := hrel
    rw [Hl.out] at hbk hAk
    have hst := (pieces_at hk).1
    rw [Hl.out] at hst
    by_cases hlt : stP bs k < n
    · have hk' := pieces_more hk (by rw [Hl.out]; exact hlt)
      obtain rfl := hAk (by omega)
      have hbytes : Bytes wr (some ⟨b, off + stP bs k, none⟩) (n - stP bs k) (c - stP bs k) (bs.drop (stP bs k)) := by
        have := (hx.below hbelk)
        rw [hA (by omega)] at this
        obtain ⟨A', hr, hv⟩ := this.cut_l tB eB sB (stP bs k : Int) (by omega) (by omega)
        have h2 := run_cut_l (P := Tryz.prog) (A := some ⟨b, off, none⟩) (n := n) (c := c) tB eB sB (stP bs k : Int) (by omega) (by omega) wr
        rw [hr wr] at h2
        injection h2 with h2
        injection h2 with h2 _ _
        rw [if_neg (by have := hx.2.1; rw [Int.toNat_natCast]; omega)] at h2
        rw [h2] at hv
        simpa [addr_add] using hv
      have hcell := hbk.cell
      have hfroz := hbk.frozen
      have hne := pieces_ne hk'
      obtain ⟨ds, hds⟩ : ∃ ds, ds = bs.drop (stP bs k) := ⟨_, rfl⟩
      have hy0 := HY.out k wr hk' hJk
      unfold pcRow wdP at hy0
      have hplen := plen_le hne
      rw [← hds] at hbytes hy0 hne hplen
      have hnext : Hid (stP bs (k + 1) = stP bs k + plen ds) := by show _ = _; rw [hds]; rfl
      obtain ⟨st, hst'⟩ : ∃ st, st = stP bs k := ⟨_, rfl⟩
      rw [← hst'] at hbytes hy0 hnext hcell hbk hst hlt
      clear hds hst' hAk
      have hdl := hbytes.1
      rw [hdl] at hplen
      have Hdl := Lib.hid hdl; clear hdl
      have hrle := runL_le ds
      rw [Hdl.out] at hrle
      have hplen1 := plen_pos ds
      obtain ⟨m, hm⟩ : ∃ m, m = n - st := ⟨_, rfl⟩
      obtain ⟨q, hq⟩ : ∃ q, q = c - st := ⟨_, rfl⟩
      rw [← hm, ← hq] at hcell hbytes hbk
      rw [← hm] at hplen hrle Hdl
      rw [← hq] at hy0
      have hmp : 0 < m := by omega
      have hm9 : m ≤ 1000000000 := by omega
      have Hm := Lib.hid hm; clear hm
      have Hq := Lib.hid hq; clear hq
      have d0 : decide ((0 : Int) < (m : Int)) = true := by simp; omega
      have d0' : decide (0 < m) = true := by simp; omega
      have hcap := hbytes.2.1
      gi_wp2
      gi_loop [3] (fun i => ∃ j : Nat, j ≤ runL ds ∧ i = .int .i64 (j : Int)) (fun i => runL ds - (intOf i).toNat)
      case atStart => exact ⟨0, by omega, rfl⟩
      case round =>
        obtain ⟨j, hj, rfl⟩ := hrel
        by_cases hjm : j < m
        · have d1 : decide ((j : Int) < (m : Int)) = true := by simp; omega
          have d1' : decide (j < m) = true := by simp; omega
          have c1 := hbytes.cell (k := j) hjm
          by_cases hjr : j < runL ds
          · have hle := runL_letter hjr
            have hcal := letter_any (gb ds j) wr
            rw [hle] at hcal
            have Hcal := Lib.hid hcal; clear hcal hle
            have HJ : Hid (j + 1 ≤ runL ds) := hjr
            gi_wp2_with (refine ⟨trivial, ?_⟩; gi_at_call 204; refine (callsIn_wide.2 Hcal.out).mono ?_; rintro e w1 ⟨rfl, hw1⟩; obtain rfl : wr = w1 := hw1.symm)
            go_round
            case rel => exact ⟨j + 1, HJ.out, by go_num⟩
            case measure => have := HJ.out; simp [intOf]; omega
          · obtain rfl : j = runL ds := by omega
            have hle := runL_stop (bs := ds) (by rw [Hdl.out]; exact hjm)
            have hcal := letter_any (gb ds (runL ds)) wr
            rw [hle] at hcal
            have Hcal := Lib.hid hcal; clear hcal hle
            rcases Nat.eq_zero_or_pos (runL ds) with hr0 | hr0
            · have hp1 : plen ds = 1 := by unfold plen; omega
              have hw0 : decide (0 < runL ds) = false := by simp; omega
              have hw0' : decide ((0 : Int) < (runL ds : Int)) = false := by simp; omega
              have hmx : max ((runL ds : Nat) : Int) 1 = 1 := by omega
              obtain ⟨r4, v4⟩ := hbytes.cut_h tB eB sB (1 : Int) (by omega) (by omega)
              have r5 := run_cut_l (P := Tryz.prog) (A := some ⟨b, off + st, none⟩) (n := m) (c := q) tB eB sB (1 : Int) (by omega) (by omega)
              rw [hp1, hw0] at hy0
              rw [hp1] at hnext
              obtain ⟨fn, tmps, assign, body, hy, hR⟩ := hy0
              have hr1 : runL ds < 1 := by omega
              clear hr0 hp1
              gi_wp2_with (refine ⟨trivial, ?_⟩; gi_at_call 204; refine (callsIn_wide.2 Hcal.out).mono ?_; rintro e w1 ⟨rfl, hw1⟩; obtain rfl : wr = w1 := hw1.symm)
              refine hR.mono ?_
              rintro e W3 (⟨rfl, hJ3, hk3⟩ | ⟨rfl, hJx3⟩)
              · have hbk3 : Boxed W3 bx 23 (.slice (some ⟨b, off + st, none⟩) m q) := hk3.1.trans hbk
                have hcell3 := hbk3.cell
                have hfroz3 := hbk3.frozen
                clear hR hy hcell hfroz
                gi_wp2
                go_roundw
                case rel =>
                  exact ⟨k + 1, hk', hJ _ _ _ hJ3 (grownBy_setCell' _ _ _), pcBox_next hbk3 Hl.out Hm.out Hq.out hnext.out (by omega) (fun h => by first | rfl | rw [if_neg (by omega)]), (hbelk.trans hk3.2).setCell (p := ⟨bx, 0, none⟩) hbx _⟩
                case measure => rw [boxLen_of (hbk3.set _), boxLen_of hbk]; omega
              · clear hR hy
                gi_wp2
                refine bodyPost_ret (results_none rfl _ _ _) rfl ?_
                exact ⟨⟨_, rfl⟩, .inr ⟨k + 1, hk', hJx3⟩⟩
            · have hp1 : plen ds = runL ds := by unfold plen; omega
              have hw0 : decide (0 < runL ds) = true := by simp; omega
              have hw0' : decide ((0 : Int) < (runL ds : Int)) = true := by simp; omega
              have hmx : max ((runL ds : Nat) : Int) 1 = (runL ds : Int) := by omega
              obtain ⟨r4, v4⟩ := hbytes.cut_h tB eB sB (runL ds : Int) (by omega) (by omega)
              rw [Int.toNat_natCast] at r4
              have r5 := run_cut_l (P := Tryz.prog) (A := some ⟨b, off + st, none⟩) (n := m) (c := q) tB eB sB (runL ds : Int) (by omega) (by omega)
              rw [Int.toNat_natCast] at r5
              rw [hp1, hw0] at hy0
              rw [hp1] at hnext
              obtain ⟨fn, tmps, assign, body, hy, hR⟩ := hy0
              clear hp1
              gi_wp2_with (refine ⟨trivial, ?_⟩; gi_at_call 204; refine (callsIn_wide.2 Hcal.out).mono ?_; rintro e w1 ⟨rfl, hw1⟩; obtain rfl : wr = w1 := hw1.symm)
              refine hR.mono ?_
              rintro e W3 (⟨rfl, hJ3, hk3⟩ | ⟨rfl, hJx3⟩)
              · have hbk3 : Boxed W3 bx 23 (.slice (some ⟨b, off + st, none⟩) m q) := hk3.1.trans hbk
                have hcell3 := hbk3.cell
                have hfroz3 := hbk3.frozen
                clear hR hy hcell hfroz
                gi_wp2
                go_roundw
                case rel =>
                  exact ⟨k + 1, hk', hJ _ _ _ hJ3 (grownBy_setCell' _ _ _), pcBox_next hbk3 Hl.out Hm.out Hq.out hnext.out (by omega) (fun h => by first | rfl | rw [if_neg (by omega)]), (hbelk.trans hk3.2).setCell (p := ⟨bx, 0, none⟩) hbx _⟩
                case measure => rw [boxLen_of (hbk3.set _), boxLen_of hbk]; omega
              · clear hR hy
                gi_wp2
                refine bodyPost_ret (results_none rfl _ _ _) rfl ?_
                exact ⟨⟨_, rfl⟩, .inr ⟨k + 1, hk', hJx3⟩⟩
        · have d1 : decide ((j : Int) < (m : Int)) = false := by simp; omega
          have d1' : decide (j < m) = false := by simp; omega
          obtain rfl : j = runL ds := by omega
          rcases Nat.eq_zero_or_pos (runL ds) with hr0 | hr0
          · exfalso; omega
          · have hp1 : plen ds = runL ds := by unfold plen; omega
            have hw0 : decide (0 < runL ds) = true := by simp; omega
            have hw0' : decide ((0 : Int) < (runL ds : Int)) = true := by simp; omega
            have hmx : max ((runL ds : Nat) : Int) 1 = (runL ds : Int) := by omega
            obtain ⟨r4, v4⟩ := hbytes.cut_h tB eB sB (runL ds : Int) (by omega) (by omega)
            rw [Int.toNat_natCast] at r4
            have r5 := run_cut_l (P := Tryz.prog) (A := some ⟨b, off + st, none⟩) (n := m) (c := q) tB eB sB (runL ds : Int) (by omega) (by omega)
            rw [Int.toNat_natCast] at r5
            rw [hp1, hw0] at hy0
            rw [hp1] at hnext
            obtain ⟨fn, tmps, assign, body, hy, hR⟩ := hy0
            clear hp1
            gi_wp2
            refine ⟨trivial, ?_⟩
            gi_wp2
            refine hR.mono ?_
            rintro e W3 (⟨rfl, hJ3, hk3⟩ | ⟨rfl, hJx3⟩)
            · have hbk3 : Boxed W3 bx 23 (.slice (some ⟨b, off + st, none⟩) m q) := hk3.1.trans hbk
              have hcell3 := hbk3.cell
              have hfroz3 := hbk3.frozen
              clear hR hy hcell hfroz
              gi_wp2
              go_roundw
              case rel =>
                exact ⟨k + 1, hk', hJ _ _ _ hJ3 (grownBy_setCell' _ _ _), pcBox_next hbk3 Hl.out Hm.out Hq.out hnext.out (by omega) (fun h => by first | rfl | rw [if_neg (by omega)]), (hbelk.trans hk3.2).setCell (p := ⟨bx, 0, none⟩) hbx _⟩
              case measure => rw [boxLen_of (hbk3.set _), boxLen_of hbk]; omega
            · clear hR hy
              gi_wp2
              refine bodyPost_ret (results_none rfl _ _ _) rfl ?_
              exact ⟨⟨_, rfl⟩, .inr ⟨k + 1, hk', hJx3⟩⟩
    · have hkl : k = (piecesL bs).length := by
        rcases Nat.lt_or_ge k (piecesL bs).length with h | h
        · have := pieces_ne h
          rw [ne_eq, List.drop_eq_nil_iff, Hl.out] at this
          omega
        · omega
      have d0 : decide ((0 : Int) < ((n - stP bs k : Nat) : Int)) = false := by simp; omega
      have hcell := hbk.cell
      have hz : n - stP bs k = 0 := by omega
      rw [hz] at hcell
      have d0' : decide ((0 : Int) < ((0 : Nat) : Int)) = false := rfl
      gi_wp2
      go_end0
      exact ⟨⟨_, rfl⟩, .inl (hkl ▸ hJk)⟩
end Go.Proofs.YtohadkmaemmfgaaGreatDoor.Dic
