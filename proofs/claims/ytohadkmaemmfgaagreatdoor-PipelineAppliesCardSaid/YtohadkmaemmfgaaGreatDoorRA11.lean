/- Nb Zr. -/
import Derived.Test.YtohadkmaemmfgaaGreatDoorRA10
import Derived.Lib.EndianBits
set_option maxRecDepth 100000
set_option maxHeartbeats 4000000
namespace Go.Proofs.YtohadkmaemmfgaaGreatDoor
open Go.RowKit Go.Proofs
set_option linter.unusedVariables false
set_option linter.unusedSimpArgs false
attribute [local go_sem] Oper.semAt_some
def tG (l : List Tok) (k : Nat) : Tok := l.getD k ⟨0, 0, 0⟩
theorem tG_drop {l : List Tok} {k : Nat} {x : Tok} {r : List Tok} (h : l.drop k = x :: r) : k < l.length ∧ tG l k = x ∧ l.drop (k + 1) = r := by
  have hk : k < l.length := by
    rcases Nat.lt_or_ge k l.length with h1 | h1
    · exact h1
    · rw [List.drop_of_length_le h1] at h; cases h
  rw [List.drop_eq_getElem_cons hk] at h
  injection h with h1 h2
  refine ⟨hk, ?_, h2⟩
  unfold tG
  rw [List.getD_eq_getElem?_getD, List.getElem?_eq_getElem hk, ← h1]
  rfl
theorem tG_nil {l : List Tok} {k : Nat} (h : l.drop k = []) (hk : k ≤ l.length) : k = l.length := by
  have := congrArg List.length h
  rw [List.length_drop] at this
  simp at this
  omega
def chRow (bs : List UInt8) (at_ k : Nat) : Array Value := #[.agg (tokV (tG (chL bs at_) k))]
def twoKq (n0 b1 b2 : Nat) (X Y : World) : Prop := Y.heap[b1]? = X.heap[b1]? ∧ Y.heap[b2]? = X.heap[b2]? ∧ Below n0 X Y
theorem choices_any (A : Option Addr) (n c at_ : Nat) (w : World) :
    Calls Tryz.prog 264 #[.slice A n c, .int .i64 (at_ : Int)] w fun e w' => e = .returned (.func (.func 294) #[] #[.pointer (some ⟨w.heap.size, 0, none⟩), .pointer (some ⟨w.heap.size + 1, 0, none⟩)]) ∧ w' = (w.alloc (.cells #[.slice A n c] 23)).alloc (.cells #[.int .i64 (at_ : Int)] 3) := by
  go_enter Tryz.func264, Tryz.ntmps264
  go_wp2_with fail
  go_ret
  exact ⟨rfl, rfl⟩
theorem chF_more {bs : List UInt8} {at_ d l : Nat} (hd : d ≤ min at_ 4096) : chF bs at_ (min at_ 4096 + 1 - d) d l = cpL (cmn bs at_ d) d l ++ chF bs at_ (min at_ 4096 + 1 - (d + 1)) (d + 1) (max l (cmn bs at_ d + 1)) := by
  rw [show min at_ 4096 + 1 - d = (min at_ 4096 + 1 - (d + 1)) + 1 by omega, chF]
theorem chF_end {bs : List UInt8} {at_ d l : Nat} (hd : min at_ 4096 < d) : chF bs at_ (min at_ 4096 + 1 - d) d l = [] := by
  rw [show min at_ 4096 + 1 - d = 0 by omega, chF]
theorem choices1_gives (w0 : World) (A : Option Addr) (n c at_ : Nat) (bs : List UInt8) (hx : Bytes w0 A n c bs) (hn : n ≤ 1000000) (ha : at_ < n) (b1 b2 : Nat) :
    Gives Tryz.prog 294 #[.pointer (some ⟨b1, 0, none⟩), .pointer (some ⟨b2, 0, none⟩)] (chRow bs at_) (chL bs at_).length (fun X Y => Drawn X Y) (twoKq w0.heap.size b1 b2)
      (fun W => Boxed W b1 23 (.slice A n c) ∧ Boxed W b2 3 (.int .i64 (at_ : Int)) ∧ Below w0.heap.size w0 W) := by
  intro l J Jx W ⟨hbox1, hbox2, hbel⟩ hJ hJx hY h0
  have HY := Lib.hid hY; clear hY
  have HX := Lib.hid hx
  have Hl := Lib.hid hx.1
  have q1 := hbox1.cell
  have q2 := hbox2.cell
  obtain ⟨b, off, rfl, -, hcc⟩ := (hx.below hbel).2.2 (by omega)
  have y0 : W.cell? ⟨b, off + at_, none⟩ = some (.int .u8 ((bA bs at_).toNat : Int)) := hcc at_ ha
  have hch : (chL bs at_).drop 0 = ⟨0, 0, bA bs at_⟩ :: chF bs at_ (min at_ 4096 + 1 - 1) 1 2 := by rw [List.drop_zero, Nat.add_sub_cancel]; rfl
  obtain ⟨hkl, hG, hdn⟩ := tG_drop hch
  have hy0 := HY.out 0 W hkl h0
  unfold chRow tokV at hy0
  rw [hG] at hy0
  have HDn := Lib.hid hdn
  obtain ⟨x, hxx⟩ : ∃ x, x = bA bs at_ := ⟨_, rfl⟩
  rw [← hxx] at y0 hy0
  have hy0 : YieldAt Fence.wide 7 Tryz.prog l #[.agg #[.int .i64 0, .int .i64 0, .int .u8 (x.toNat : Int)]] W _ := hy0
  clear hch hG hdn hxx hcc hx
  obtain ⟨fn, tmps, assign, body, hy, hR⟩ := hy0
  refine callsIn_of_wp Tryz.func294 rfl trivial ?_ rfl
  simp only [Tryz.ntmps294, List.size_toArray, List.length_cons, List.length_nil, Nat.reduceAdd, Nat.reduceSub, Array.replicate_succ, Array.replicate_zero, List.push_toArray, List.append_toArray, List.nil_append, List.cons_append]
  gi_wp2
  refine hR.mono ?_
  rintro e W3 (⟨rfl, hJ3, hk3⟩ | ⟨rfl, hJx3⟩)
  · have hd1 : Boxed W3 b1 23 (.slice (some ⟨b, off, none⟩) n c) := hk3.1.trans hbox1
    have hd2 : Boxed W3 b2 3 (.int .i64 (at_ : Int)) := hk3.2.1.trans hbox2
    have hbel3 := hbel.trans hk3.2.2
    clear hR hy q1 q2 hbox1 hbox2 hbel h0 y0 hk3
    have q1 := hd1.cell
    have q2 := hd2.cell
    gi_wp2
    gi_loopw [4, 5, 6] (fun le d _ wr => ∃ k dd ll : Nat, d = .int .i64 (dd : Int) ∧ le = .int .i64 (ll : Int) ∧ 1 ≤ dd ∧ dd ≤ 4097 ∧ 2 ≤ ll ∧ ll ≤ 256 ∧ k ≤ (chL bs at_).length ∧ J k wr ∧ Boxed wr b1 23 (.slice (some ⟨b, off, none⟩) n c) ∧ Boxed wr b2 3 (.int .i64 (at_ : Int)) ∧ Below w0.heap.size w0 wr ∧ Hid ((chL bs at_).drop k = chF bs at_ (min at_ 4096 + 1 - dd) dd ll)) (fun _ d _ _ => 5000 - (intOf d).toNat)
    case atStart => exact ⟨1, 1, 2, rfl, rfl, by omega, by omega, by omega, by omega, hkl, hJ3, hd1, hd2, hbel3, HDn⟩
    case round =>
      obtain ⟨k, dd, ll, rfl, rfl, hdd1, hdd2, hll1, hll2, hk, hJk, hc1, hc2, hbelk, HD⟩ := hrel
      clear q1 q2 hd1 hd2 hbel3 hJ3
      have q1 := hc1.cell
      have q2 := hc2.cell
      rcases Nat.lt_or_ge 4096 at_ with hc | hc
      · by_cases hdm : dd ≤ 4096
        · have d0 : decide ((dd : Int) ≤ 4096) = true := decide_eq_true (by omega)
          have d0' : decide (dd ≤ 4096) = true := decide_eq_true hdm
          have hcs := cmn_spec (bs := bs) (at_ := at_) (d := dd) (by rw [Hl.out]; omega)
          have HC := Lib.hid (common_any (some ⟨b, off, none⟩) n c at_ dd bs wr (HX.out.below hbelk) hn ha hdd1 (by omega))
          have hdk := HD.out
          rw [chF_more (by omega)] at hdk
          obtain ⟨mo, hmo⟩ : ∃ mo, mo = cmn bs at_ dd := ⟨_, rfl⟩
          rw [← hmo] at HC hdk hcs
          have hmo2 : mo ≤ 255 := hcs.1
          have HDk := Lib.hid hdk
          clear hdk hcs hmo HD
          gi_wp2_with (refine ⟨trivial, ?_⟩; gi_at_call 295; refine (callsIn_wide.2 HC.out).mono ?_; rintro e w1 ⟨rfl, hdr1⟩)
          have hJ1 := hJ _ _ _ hJk hdr1
          have hc1' : Boxed w1 b1 23 (.slice (some ⟨b, off, none⟩) n c) := ((hdr1.below _).block _ hc1.lt).trans hc1
          have hc2' : Boxed w1 b2 3 (.int .i64 (at_ : Int)) := ((hdr1.below _).block _ hc2.lt).trans hc2
          have hbel1 := hbelk.trans (hdr1.below w0.heap.size)
          clear hdr1
          gi_loopw [4] (fun le wq => ∃ kq lq : Nat, le = .int .i64 (lq : Int) ∧ ll ≤ lq ∧ lq ≤ max ll (mo + 1) ∧ kq ≤ (chL bs at_).length ∧ J kq wq ∧ Boxed wq b1 23 (.slice (some ⟨b, off, none⟩) n c) ∧ Boxed wq b2 3 (.int .i64 (at_ : Int)) ∧ Below w0.heap.size w0 wq ∧ Hid ((chL bs at_).drop kq = cpL mo dd lq ++ chF bs at_ (min at_ 4096 + 1 - (dd + 1)) (dd + 1) (max ll (mo + 1)))) (fun le _ => 300 - (intOf le).toNat)
          case atStart => exact ⟨k, ll, rfl, by omega, by omega, hk, hJ1, hc1', hc2', hbel1, HDk⟩
          case round =>
            obtain ⟨kq, lq, rfl, hlq1, hlq2, hkq, hJq, hp1, hp2, hbelq, HDq⟩ := hrel
            clear q1 q2 hc1 hc2 hbelk hJk HC hc1' hc2' hbel1 hJ1
            have q1 := hp1.cell
            have q2 := hp2.cell
            by_cases hlm : lq ≤ mo
            · have e0 : decide ((lq : Int) ≤ (mo : Int)) = true := decide_eq_true (by omega)
              have e0' : decide (lq ≤ mo) = true := decide_eq_true hlm
              have hdq := HDq.out
              rw [cpL_more hlm, List.cons_append] at hdq
              obtain ⟨hkl2, hG2, hdn2⟩ := tG_drop hdq
              have hy0 := HY.out kq _ hkl2 hJq
              unfold chRow tokV at hy0
              rw [hG2] at hy0
              have HDn2 := Lib.hid hdn2
              have hy0 : YieldAt Fence.wide 7 Tryz.prog l #[.agg #[.int .i64 (lq : Int), .int .i64 (dd : Int), .int .u8 0]] _ _ := hy0
              clear hdq hG2 hdn2 HDq HDk
              obtain ⟨fn, tmps, assign, body, hy, hR⟩ := hy0
              gi_wp2
              refine hR.mono ?_
              rintro e W4 (⟨rfl, hJ4, hk4⟩ | ⟨rfl, hJx4⟩)
              · have hf1 : Boxed W4 b1 23 (.slice (some ⟨b, off, none⟩) n c) := hk4.1.trans hp1
                have hf2 : Boxed W4 b2 3 (.int .i64 (at_ : Int)) := hk4.2.1.trans hp2
                have hbel4 := hbelq.trans hk4.2.2
                clear hR hy
                gi_wp2
                go_roundw
                case rel => exact ⟨kq + 1, lq + 1, by go_num, by omega, by omega, hkl2, hJ4, hf1, hf2, hbel4, HDn2⟩
                case measure => (simp [intOf]) <;> omega
              · clear hR hy
                gi_wp2
                refine bodyPost_ret (results_none rfl _ _ _) rfl ?_
                exact ⟨⟨_, rfl⟩, .inr ⟨kq + 1, hkl2, hJx4⟩⟩
            · have e0 : decide ((lq : Int) ≤ (mo : Int)) = false := decide_eq_false (by omega)
              have e0' : decide (lq ≤ mo) = false := decide_eq_false hlm
              have hle : lq = max ll (mo + 1) := by omega
              have HDn2 : Hid ((chL bs at_).drop kq = chF bs at_ (min at_ 4096 + 1 - (dd + 1)) (dd + 1) lq) := by show _ = _; rw [HDq.out, cpL_end (by omega), List.nil_append, ← hle]
              gi_wp2
              go_roundw
              case rel => exact ⟨kq, dd + 1, lq, by go_num, rfl, by omega, by omega, by omega, by omega, hkq, hJq, hp1, hp2, hbelq, HDn2⟩
              case measure => (simp [intOf]) <;> omega
        · have d0 : decide ((dd : Int) ≤ 4096) = false := decide_eq_false (by omega)
          have d0' : decide (dd ≤ 4096) = false := decide_eq_false hdm
          have hkl2 : k = (chL bs at_).length := tG_nil (by rw [HD.out, chF_end (by omega)]) hk
          gi_wp2
          go_end0
          exact ⟨⟨_, rfl⟩, .inl (hkl2 ▸ hJk)⟩
      · by_cases hdm : dd ≤ at_
        · have d0 : decide ((dd : Int) ≤ (at_ : Int)) = true := decide_eq_true (by omega)
          have d0' : decide (dd ≤ at_) = true := decide_eq_true hdm
          have hcs := cmn_spec (bs := bs) (at_ := at_) (d := dd) (by rw [Hl.out]; omega)
          have HC := Lib.hid (common_any (some ⟨b, off, none⟩) n c at_ dd bs wr (HX.out.below hbelk) hn ha hdd1 (by omega))
          have hdk := HD.out
          rw [chF_more (by omega)] at hdk
          obtain ⟨mo, hmo⟩ : ∃ mo, mo = cmn bs at_ dd := ⟨_, rfl⟩
          rw [← hmo] at HC hdk hcs
          have hmo2 : mo ≤ 255 := hcs.1
          have HDk := Lib.hid hdk
          clear hdk hcs hmo HD
          gi_wp2_with (refine ⟨trivial, ?_⟩; gi_at_call 295; refine (callsIn_wide.2 HC.out).mono ?_; rintro e w1 ⟨rfl, hdr1⟩)
          have hJ1 := hJ _ _ _ hJk hdr1
          have hc1' : Boxed w1 b1 23 (.slice (some ⟨b, off, none⟩) n c) := ((hdr1.below _).block _ hc1.lt).trans hc1
          have hc2' : Boxed w1 b2 3 (.int .i64 (at_ : Int)) := ((hdr1.below _).block _ hc2.lt).trans hc2
          have hbel1 := hbelk.trans (hdr1.below w0.heap.size)
          clear hdr1
          gi_loopw [4] (fun le wq => ∃ kq lq : Nat, le = .int .i64 (lq : Int) ∧ ll ≤ lq ∧ lq ≤ max ll (mo + 1) ∧ kq ≤ (chL bs at_).length ∧ J kq wq ∧ Boxed wq b1 23 (.slice (some ⟨b, off, none⟩) n c) ∧ Boxed wq b2 3 (.int .i64 (at_ : Int)) ∧ Below w0.heap.size w0 wq ∧ Hid ((chL bs at_).drop kq = cpL mo dd lq ++ chF bs at_ (min at_ 4096 + 1 - (dd + 1)) (dd + 1) (max ll (mo + 1)))) (fun le _ => 300 - (intOf le).toNat)
          case atStart => exact ⟨k, ll, rfl, by omega, by omega, hk, hJ1, hc1', hc2', hbel1, HDk⟩
          case round =>
            obtain ⟨kq, lq, rfl, hlq1, hlq2, hkq, hJq, hp1, hp2, hbelq, HDq⟩ := hrel
            clear q1 q2 hc1 hc2 hbelk hJk HC hc1' hc2' hbel1 hJ1
            have q1 := hp1.cell
            have q2 := hp2.cell
            by_cases hlm : lq ≤ mo
            · have e0 : decide ((lq : Int) ≤ (mo : Int)) = true := decide_eq_true (by omega)
              have e0' : decide (lq ≤ mo) = true := decide_eq_true hlm
              have hdq := HDq.out
              rw [cpL_more hlm, List.cons_append] at hdq
              obtain ⟨hkl2, hG2, hdn2⟩ := tG_drop hdq
              have hy0 := HY.out kq _ hkl2 hJq
              unfold chRow tokV at hy0
              rw [hG2] at hy0
              have HDn2 := Lib.hid hdn2
              have hy0 : YieldAt Fence.wide 7 Tryz.prog l #[.agg #[.int .i64 (lq : Int), .int .i64 (dd : Int), .int .u8 0]] _ _ := hy0
              clear hdq hG2 hdn2 HDq HDk
              obtain ⟨fn, tmps, assign, body, hy, hR⟩ := hy0
              gi_wp2
              refine hR.mono ?_
              rintro e W4 (⟨rfl, hJ4, hk4⟩ | ⟨rfl, hJx4⟩)
              · have hf1 : Boxed W4 b1 23 (.slice (some ⟨b, off, none⟩) n c) := hk4.1.trans hp1
                have hf2 : Boxed W4 b2 3 (.int .i64 (at_ : Int)) := hk4.2.1.trans hp2
                have hbel4 := hbelq.trans hk4.2.2
                clear hR hy
                gi_wp2
                go_roundw
                case rel => exact ⟨kq + 1, lq + 1, by go_num, by omega, by omega, hkl2, hJ4, hf1, hf2, hbel4, HDn2⟩
                case measure => (simp [intOf]) <;> omega
              · clear hR hy
                gi_wp2
                refine bodyPost_ret (results_none rfl _ _ _) rfl ?_
                exact ⟨⟨_, rfl⟩, .inr ⟨kq + 1, hkl2, hJx4⟩⟩
            · have e0 : decide ((lq : Int) ≤ (mo : Int)) = false := decide_eq_false (by omega)
              have e0' : decide (lq ≤ mo) = false := decide_eq_false hlm
              have hle : lq = max ll (mo + 1) := by omega
              have HDn2 : Hid ((chL bs at_).drop kq = chF bs at_ (min at_ 4096 + 1 - (dd + 1)) (dd + 1) lq) := by show _ = _; rw [HDq.out, cpL_end (by omega), List.nil_append, ← hle]
              gi_wp2
              go_roundw
              case rel => exact ⟨kq, dd + 1, lq, by go_num, rfl, by omega, by omega, by omega, by omega, hkq, hJq, hp1, hp2, hbelq, HDn2⟩
              case measure => (simp [intOf]) <;> omega
        · have d0 : decide ((dd : Int) ≤ (at_ : Int)) = false := decide_eq_false (by omega)
          have d0' : decide (dd ≤ at_) = false := decide_eq_false hdm
          have hkl2 : k = (chL bs at_).length := tG_nil (by rw [HD.out, chF_end (by omega)]) hk
          gi_wp2
          go_end0
          exact ⟨⟨_, rfl⟩, .inl (hkl2 ▸ hJk)⟩
  · clear hR hy
    gi_wp2
    refine bodyPost_ret (results_none rfl _ _ _) rfl ?_
    exact ⟨⟨_, rfl⟩, .inr ⟨1, hkl, hJx3⟩⟩
end Go.Proofs.YtohadkmaemmfgaaGreatDoor
namespace Go.Proofs.YtohadkmaemmfgaaGreatDoor
open Go.RowKit Go.Proofs
set_option linter.unusedVariables false
set_option linter.unusedSimpArgs false
attribute [local go_sem] Oper.semAt_some
def putT (xs : List UInt8) (i N : Nat) : Nat → List UInt8
  | 0 => xs
  | t + 1 => (putT xs i N t).set (i + 1 + t) (byC N t)
theorem putT3 (xs : List UInt8) (i N : Nat) : putT xs i N 3 = put3 xs i N := rfl
structure InvC (w : World) (S : Nat) (fx : List (Nat × Obj)) (g n : Nat) (xs : List UInt8) (W : World) : Prop where
  fix : ∀ p ∈ fx, W.heap[p.1]? = some p.2
  row : 0 < n → RowB W g n xs
  below : Below w.heap.size w W
  size : S ≤ W.heap.size
section
variable {w W W' : World} {S g n : Nat} {fx : List (Nat × Obj)} {xs : List UInt8}
theorem InvC.kept {row : Option Nat} (h : InvC w S fx g n xs W) (hf : ∀ p ∈ fx, p.1 < S) (hgS : 0 < n → g < S) (hwS : w.heap.size ≤ S) (hg : W.grownBy W' row) (hrow : ∀ r, row = some r → S ≤ r) : InvC w S fx g n xs W' := by
  obtain ⟨h1, h3, h5, h6⟩ := h
  have ne : ∀ j, j < S → some j ≠ row := fun j hj e => by have := hrow j e.symm; omega
  exact ⟨fun p hp => (hg.block p.1 (Array.getElem?_eq_some_iff.1 (h1 p hp)).1 (ne _ (hf p hp))).trans (h1 p hp), fun hn => (h3 hn).keep (hg.block g (h3 hn).lt (ne _ (hgS hn))), h5.grown hg h5.size (fun r e => by have := hrow r e; omega), Nat.le_trans h6 hg.size⟩
theorem InvC.set (h : InvC w S fx g n xs W) (hf : ∀ p ∈ fx, p.1 ≠ g) (hwg : w.heap.size ≤ g) (hn : 0 < n) {k : Nat} (hk : k < n) (b : UInt8) : InvC w S fx g n (xs.set k b) (W.setCell ⟨g, k, none⟩ (.int .u8 (b.toNat : Int))) := by
  obtain ⟨h1, h3, h5, h6⟩ := h
  exact ⟨fun p hp => (Below.heap_setCell W ⟨g, k, none⟩ _ p.1 (hf p hp)).trans (h1 p hp), fun _ => (h3 hn).set hk b, h5.setCell (p := ⟨g, k, none⟩) hwg _, by simpa [World.setCell] using h6⟩
end
theorem fwc_any (x y : Int) (w : World) (h : -1000000000 ≤ x ∧ x ≤ 1000000000) (h' : 0 ≤ y ∧ y ≤ 1000000000) : Calls Tryz.prog 75 #[.int .i64 x, .int .i64 y] w fun e w' => e = .returned (.int .i64 (x + y)) ∧ w' = w := by
  go_enter Tryz.func75, Tryz.ntmps75
  go_wp2_with fail
  go_ret
  exact ⟨rfl, rfl⟩
def DirC (g : Nat) (s : Int) : Prop := (s = 1 ∨ s = -1) ∧ Enters Tryz.prog g ∧ ∀ (x y : Int) (w : World), -1000000000 ≤ x ∧ x ≤ 1000000000 → 0 ≤ y ∧ y ≤ 1000000000 → Calls Tryz.prog g #[.int .i64 x, .int .i64 y] w fun e w' => e = .returned (.int .i64 (x + s * y)) ∧ w' = w
theorem dirF : DirC 75 1 := ⟨.inl rfl, enters_of Tryz.func75 (by kernel_rfl) rfl, fun x y w h h' => by rw [Int.one_mul]; exact fwc_any x y w h h'⟩
theorem w64 {z : Int} (h : -9223372036854775808 ≤ z ∧ z ≤ 9223372036854775807) : wrap64 z = z := by
  unfold wrap64; omega
theorem orA (x : UInt8) : bits BinOp.or IntKind.i64 0 (wrap64 (wrap64 (x.toNat : Int))) = (x.toNat : Int) := by
  have h := x.toNat_lt
  rw [w64 (z := (x.toNat : Int)) (by omega), w64 (z := (x.toNat : Int)) (by omega), bits_join_low .i64 63 (by decide) (fun n h1 h2 => IntWalk.i64_in n ⟨by omega, by omega⟩) 0 0 (x.toNat : Int) (by omega) (by omega) (by omega) (by omega) (by omega) (by omega)]
  omega
theorem orB (x y : UInt8) : bits BinOp.or IntKind.i64 (x.toNat : Int) (wrap64 (wrap64 (y.toNat : Int) * 256)) = ((x.toNat + 256 * y.toNat : Nat) : Int) := by
  have h := x.toNat_lt
  have h2 := y.toNat_lt
  rw [w64 (z := (y.toNat : Int)) (by omega), w64 (by omega), bits_join_low .i64 63 (by decide) (fun n h1 h2 => IntWalk.i64_in n ⟨by omega, by omega⟩) 8 (x.toNat : Int) ((y.toNat : Int) * 256) (by omega) (by omega) (by omega) (by omega) (by omega) (by omega)]
  omega
theorem orC (x y z : UInt8) : bits BinOp.or IntKind.i64 ((x.toNat : Int) + 256 * (y.toNat : Int)) (wrap64 (wrap64 (z.toNat : Int) * 65536)) = ((x.toNat + 256 * y.toNat + 65536 * z.toNat : Nat) : Int) := by
  have h := x.toNat_lt
  have h2 := y.toNat_lt
  have h3 := z.toNat_lt
  rw [w64 (z := (z.toNat : Int)) (by omega), w64 (by omega), bits_join_low .i64 63 (by decide) (fun n h1 h2 => IntWalk.i64_in n ⟨by omega, by omega⟩) 16 ((x.toNat : Int) + 256 * (y.toNat : Int)) ((z.toNat : Int) * 65536) (by omega) (by omega) (by omega) (by omega) (by omega) (by omega)]
  omega
theorem byv0 (Z : Int) : Z % 256 = ((byC (Z % 16777216).toNat 0).toNat : Int) := by
  unfold byC
  rw [UInt8.toNat_ofNat', Nat.pow_zero, Nat.div_one]
  omega
theorem byv1 (Z : Int) : Z / 256 % 256 = ((byC (Z % 16777216).toNat 1).toNat : Int) := by
  unfold byC
  rw [UInt8.toNat_ofNat', Nat.pow_one]
  omega
theorem byv2 (Z : Int) : Z / 65536 % 256 = ((byC (Z % 16777216).toNat 2).toNat : Int) := by
  unfold byC
  rw [UInt8.toNat_ofNat', show (256 : Nat) ^ 2 = 65536 from rfl]
  omega
theorem callsOut (s : Int) {bs : List UInt8} {k : Nat} (hk : k < (sitesC bs).length) (t : Nat) : bA (chg s bs k) (oN (sitesC bs) k + t) = bA bs (oN (sitesC bs) k + t) := chg_here hk
theorem applyC_any (g0 : Nat) (s : Int) (hd : DirC g0 s) (A : Option Addr) (n c : Nat) (bs : List UInt8) (w : World) (hx : Bytes w A n c bs) (hn : n ≤ 1000000) :
    Calls Tryz.prog 76 #[.agg #[.func (.func g0) #[] #[]], .slice A n c] w (RetBytes w (if 65536 < n then [] else callsP s bs) (if 65536 < n then 5 else 0)) := by
  obtain ⟨w1, hw1⟩ : ∃ w1, w1 = w.alloc (.cells #[.func (.func g0) #[] #[]] 96) := ⟨_, rfl⟩
  have hb1 : Below w.heap.size w w1 := by rw [hw1]; exact balloc (Below.refl _ _) _
  have s1 : w1.heap.size = w.heap.size + 1 := by rw [hw1, World.size_alloc]
  have r1 : rowV w1 w.heap.size 96 #[.func (.func g0) #[] #[]] := by rw [hw1]; exact rowV.new w _ _
  have HB1 := Lib.hid hb1
  have HW1 := Lib.hid hw1
  have HS1 := Lib.hid s1
  have HR1 := Lib.hid r1
  have HX := Lib.hid hx
  have Hn := Lib.hid hx.1
  by_cases h6 : 65536 < n
  · have d0 : decide ((65536 : Int) < (n : Int)) = true := decide_eq_true (by omega)
    have d0' : decide (65536 < n) = true := decide_eq_true h6
    simp only [if_pos h6]
    clear hx hw1 hb1 s1 r1 h6
    refine calls_of_marks Tryz.func76 rfl ?_
    simp only [Tryz.ntmps76, List.size_toArray, List.length_cons, List.length_nil, Nat.reduceAdd, Nat.reduceSub, Array.replicate_succ, Array.replicate_zero, List.push_toArray, List.append_toArray, List.nil_append, List.cons_append]
    go_wp2_with fail
    rw [← HW1.out]
    refine markPost_ret (v := .tuple #[.slice none 0 0, .int .i64 5]) (fun W => by simp [results, Tryz.results76, go_sem]) rfl ?_
    exact RetBytes.err rfl HB1.out
  · have d0 : decide ((65536 : Int) < (n : Int)) = false := decide_eq_false (by omega)
    have d0' : decide (65536 < n) = false := decide_eq_false h6
    simp only [if_neg h6]
    have HCL := Lib.hid (clone_any A n c bs w1 (hx.below hb1) hn)
    have hn6 : n ≤ 65536 := by omega
    clear hx hw1 hb1 s1 r1 h6
    refine calls_of_marks Tryz.func76 rfl ?_
    simp only [Tryz.ntmps76, List.size_toArray, List.length_cons, List.length_nil, Nat.reduceAdd, Nat.reduceSub, Array.replicate_succ, Array.replicate_zero, List.push_toArray, List.append_toArray, List.nil_append, List.cons_append]
    go_wp2_with fail
    rw [← HW1.out]
    refine HCL.out.mono ?_
    rintro e w2 ⟨A2, n2, c2, rfl, ho2, hb2⟩
    obtain rfl : n = n2 := by rw [← ho2.length]; exact Hn.out.symm
    have hcap := ho2.cap
    obtain ⟨g, hg⟩ : ∃ g, 0 < n → A2 = some ⟨g, 0, none⟩ ∧ w1.heap.size ≤ g ∧ RowB w2 g n bs := by
      rcases Nat.eq_zero_or_pos n with h | h
      · exact ⟨0, fun h' => absurd h' (by omega)⟩
      · obtain ⟨g, h1, h2, h3⟩ := RowB.of_own ho2 h
        exact ⟨g, fun _ => ⟨h1, h2, h3⟩⟩
    obtain ⟨w3, hw3⟩ : ∃ w3, w3 = w2.alloc (.cells #[.slice A2 n c2] 23) := ⟨_, rfl⟩
    obtain ⟨w4, hw4⟩ : ∃ w4, w4 = w3.alloc (.cells #[.slice A n c] 23) := ⟨_, rfl⟩
    have g3 : Below w2.heap.size w2 w3 := by rw [hw3]; exact balloc (Below.refl _ _) _
    have g4 : Below w3.heap.size w3 w4 := by rw [hw4]; exact balloc (Below.refl _ _) _
    have s3 : w3.heap.size = w2.heap.size + 1 := by rw [hw3, World.size_alloc]
    have s4 : w4.heap.size = w2.heap.size + 2 := by rw [hw4, World.size_alloc, s3]
    have r3 : rowV w3 w2.heap.size 23 #[.slice A2 n c2] := by rw [hw3]; exact rowV.new w2 _ _
    have r4 : rowV w4 (w2.heap.size + 1) 23 #[.slice A n c] := by have := rowV.new w3 23 #[.slice A n c]; rw [s3] at this; rw [hw4]; exact this
    have hs12 := hb2.size
    obtain ⟨ob, hob⟩ : ∃ ob, ob = w2.heap.size := ⟨_, rfl⟩
    have hwob : w.heap.size + 1 ≤ ob := by rw [hob, ← HS1.out]; exact hs12
    have g24 : Below w2.heap.size w2 w4 := g3.trans (g4.mono g3.size)
    have hI0 : InvC w (ob + 2) [(w.heap.size, .cells #[.func (.func g0) #[] #[]] 96), (ob, .cells #[.slice A2 n c2] 23), (ob + 1, .cells #[.slice A n c] 23)] g n (chg s bs 0) w4 := by
      refine ⟨fun p hp => ?_, fun hn0 => ?_, ?_, by omega⟩
      · simp only [List.mem_cons, List.not_mem_nil, or_false] at hp
        rcases hp with rfl | rfl | rfl
        · exact (HR1.out.below hb2 HR1.out.lt).below g24 (by omega)
        · rw [hob]; exact r3.below g4 (by omega)
        · rw [hob]; exact r4
      · exact ((hg hn0).2.2).below g24 ((hg hn0).2.2).lt
      · exact HB1.out.trans ((hb2.trans (g24.mono hb2.size)).mono HB1.out.size)
    have hfx : ∀ p ∈ [(w.heap.size, Obj.cells #[.func (.func g0) #[] #[]] 96 (0, 0)), (ob, .cells #[.slice A2 n c2] 23 (0, 0)), (ob + 1, .cells #[.slice A n c] 23 (0, 0))], p.1 < ob + 2 ∧ (0 < n → p.1 ≠ g) := by
      intro p hp
      simp only [List.mem_cons, List.not_mem_nil, or_false] at hp
      have hgl : 0 < n → g < ob ∧ w.heap.size + 1 ≤ g := fun hn0 => ⟨by rw [hob]; exact ((hg hn0).2.2).lt, by have := (hg hn0).2.1; have := HS1.out; omega⟩
      rcases hp with rfl | rfl | rfl
      · exact ⟨by omega, fun hn0 => by have := hgl hn0; omega⟩
      · exact ⟨by omega, fun hn0 => by have := hgl hn0; omega⟩
      · exact ⟨by omega, fun hn0 => by have := hgl hn0; omega⟩
    have HGL : Hid (0 < n → g < ob ∧ w.heap.size + 1 ≤ g) := fun hn0 => ⟨by rw [hob]; exact ((hg hn0).2.2).lt, by have := (hg hn0).2.1; have := HS1.out; omega⟩
    have HGA : Hid (0 < n → A2 = some ⟨g, 0, none⟩) := fun hn0 => (hg hn0).1
    have HFX := Lib.hid hfx
    have HI0 := Lib.hid hI0
    have HST := sites_any A n c w3
    rw [← hw4, s3, ← hob] at HST
    have HST := Lib.hid HST
    have HW3 := Lib.hid hw3
    have Hs4 : Hid (w4.heap.size = ob + 2) := by show _ = _; rw [s4, hob]
    have HOB := Lib.hid hob
    have HWOB := Lib.hid hwob
    clear hg hw3 hw4 g3 g4 s3 s4 r3 r4 hs12 hob hwob g24 hI0 hfx hb2 ho2 HCL
    go_wp2_with fail
    rw [← HW3.out]
    refine HST.out.mono ?_
    rintro e w5 ⟨rfl, hq⟩
    obtain rfl := hq.symm
    clear HST
    go_wp2_with fail
    rw [← HOB.out]
    refine wp_rangeFunc_one (G := fun u t => (t.setIfInBounds 20 u).setIfInBounds 7 u) (u := fun k => .int .i64 ((oN (sitesC bs) k : Nat) : Int)) rfl (Go.Proofs.enters_of Tryz.func201 (by kernel_rfl) rfl) (sites1_gives w A n c bs HX.out hn (ob + 1) (by have := HWOB.out; omega))
      (fun o1 o2 => ⟨Boxed.alloc (Boxed.alloc (HI0.out.fix (ob + 1, _) (by simp)) _) _, (HI0.out.below.alloc HI0.out.below.size _).alloc (by have := HI0.out.below.size; simp; omega) _⟩)
      (fun X Y hab => by subst hab; exact KeepsFrom.refl _ _)
      (fun h1 h2 => ⟨h2.1.trans h1.1, h1.2.trans h2.2⟩)
      (fun W l o o' hl hlo ho => ⟨World.putObj_heap_other (by rw [Hs4.out] at hl; omega), (Below.refl _ _).grown (grownBy_putObj' W l o') (by have := (Array.getElem?_eq_some_iff.1 hlo).1; have := HWOB.out; rw [Hs4.out] at hl; omega) (fun k e => by cases e; have := HWOB.out; rw [Hs4.out] at hl; omega)⟩)
      (fun k => InvC w (ob + 2) [(w.heap.size, .cells #[.func (.func g0) #[] #[]] 96), (ob, .cells #[.slice A2 n c2] 23), (ob + 1, .cells #[.slice A n c] 23)] g n (chg s bs k)) (fun _ _ _ => False) ?hI (fun _ _ _ _ _ h _ _ => h.elim) (fun k X Y h hab => by subst hab; exact h) (fun _ _ _ _ h _ => h.elim) HI0.out ?assign ?body ?done (fun _ _ _ _ _ _ h _ => h.elim)
    case hI => exact fun s W W' row h hg hr => h.kept (fun p hp => (HFX.out p hp).1) (fun hn0 => by have := HGL.out hn0; omega) (by have := HWOB.out; omega) hg (fun r e => by have := (hr r e).1; rw [Hs4.out] at this; exact this)
    case assign =>
      intro l k W K hK
      simp only [List.setIfInBounds_toArray, List.set_cons_succ, List.set_cons_zero] at hK ⊢
      gi_wp2
      exact hK
    case done =>
      intro D W hD hI hdef
      rw [Hs4.out] at hD
      obtain ⟨hfix, hrow, hbelW, hsW⟩ := hI
      have q1 : W.cell? ⟨ob, 0, none⟩ = some (.slice A2 n c2) := (show rowV W ob 23 #[.slice A2 n c2] from hfix (ob, _) (by simp)).cell rfl
      go_wp2_with fail
      refine markPost_mark hdef (v := .tuple #[.slice A2 n c2, .int .i64 0]) (fun W => by simp [results, Tryz.results76, go_sem]) rfl ?_
      refine RetBytes.mk rfl ?_ (hbelW.grown (grownBy_putObj' W D _) hbelW.size (fun k e => by cases e; have := HWOB.out; omega))
      rcases Nat.eq_zero_or_pos n with h0 | h0
      · exact ⟨by rw [callsP_length]; exact Hn.out, hcap, fun h => absurd h (by omega)⟩
      · rw [HGA.out h0]
        exact ((hrow h0).keep (World.putObj_heap_other (by have := HGL.out h0; omega))).bytes hcap
    case body =>
      intro l k W hk hl hI
      simp only [List.setIfInBounds_toArray, List.set_cons_succ, List.set_cons_zero]
      have hi5 := site_in hk
      rw [Hn.out] at hi5
      have hn0 : 0 < n := by omega
      have HI := Lib.hid hI
      obtain ⟨hfix, hrow, hbelW, hsW⟩ := hI
      obtain rfl := HGA.out hn0
      have hrw := hrow hn0
      have HRW := Lib.hid hrw
      have q1 : W.cell? ⟨ob, 0, none⟩ = some (.slice (some ⟨g, 0, none⟩) n c2) := (show rowV W ob 23 #[.slice (some ⟨g, 0, none⟩) n c2] from hfix (ob, _) (by simp)).cell rfl
      have hcl : ∀ t, t < 5 → W.cell? ⟨g, oN (sitesC bs) k + t, none⟩ = some (.int .u8 ((bA bs (oN (sitesC bs) k + t)).toNat : Int)) := fun t ht => by
        rw [hrw.cell (k := oN (sitesC bs) k + t) (by omega), gb_bA, callsOut s hk]
      have hop : opnd bs (oN (sitesC bs) k) = (bA bs (oN (sitesC bs) k + 1)).toNat + 256 * (bA bs (oN (sitesC bs) k + 2)).toNat + 65536 * (bA bs (oN (sitesC bs) k + 3)).toNat := rfl
      have hchg : chg s bs (k + 1) = put3 (chg s bs k) (oN (sitesC bs) k) (newC s bs (oN (sitesC bs) k)) := rfl
      have hnew : newC s bs (oN (sitesC bs) k) = ((((opnd bs (oN (sitesC bs) k) : Nat) : Int) + s * ((oN (sitesC bs) k + 5 : Nat) : Int)) % 16777216).toNat := rfl
      obtain ⟨i, hi⟩ : ∃ i, i = oN (sitesC bs) k := ⟨_, rfl⟩
      rw [← hi] at hi5 hcl hop hchg hnew ⊢
      have HCL := Lib.hid hcl
      have HCH := Lib.hid hchg
      have HOP := Lib.hid hop
      have HNW := Lib.hid hnew
      have hcut : ∀ X : World, (Instr.slice 23 (.slice (some ⟨g, 0, none⟩) n c2) (some (.int .i64 ((i : Int) + 1))) (some (.int .i64 ((i : Int) + 4))) none).run Tryz.prog X = .ok (.slice (some ⟨g, i + 1, none⟩) 3 (c2 - (i + 1))) X := fun X => by
        have := run_cut_lh (P := Tryz.prog) (A := some ⟨g, 0, none⟩) (n := n) (c := c2) tB eB sB ((i : Int) + 1) ((i : Int) + 4) (by omega) (by omega) (by omega) X
        rw [this, show ((i : Int) + 1).toNat = i + 1 by omega, show ((i : Int) + 4).toNat - (i + 1) = 3 by omega, if_neg (by omega)]
        simp [Addr.add]
      clear hi hchg hop hnew hrow hrw hcl hfix hk
      gi_wp2
      obtain ⟨x1, hx1⟩ : ∃ x, x = bA bs (i + 1) := ⟨_, rfl⟩
      obtain ⟨x2, hx2⟩ : ∃ x, x = bA bs (i + 2) := ⟨_, rfl⟩
      obtain ⟨x3, hx3⟩ : ∃ x, x = bA bs (i + 3) := ⟨_, rfl⟩
      have c1 := HCL.out 1 (by omega)
      have c2' := HCL.out 2 (by omega)
      have c3 := HCL.out 3 (by omega)
      rw [← hx1] at c1
      rw [← hx2] at c2'
      rw [← hx3] at c3
      have HOP2 : Hid (opnd bs i = x1.toNat + 256 * x2.toNat + 65536 * x3.toNat) := by show _ = _; rw [HOP.out, hx1, hx2, hx3]
      clear hx1 hx2 hx3 HCL HOP
      gi_loop [9, 10, 11, 29] (fun v _ _ j => (j = .int .i64 0 ∧ v = .int .i64 0) ∨ (j = .int .i64 1 ∧ v = .int .i64 (x1.toNat : Int)) ∨ (j = .int .i64 2 ∧ v = .int .i64 ((x1.toNat + 256 * x2.toNat : Nat) : Int)) ∨ (j = .int .i64 3 ∧ v = .int .i64 ((opnd bs i : Nat) : Int))) (fun _ _ _ j => 3 - (intOf j).toNat)
      case atStart => exact .inl ⟨rfl, rfl⟩
      case round =>
        rcases hrel with ⟨rfl, rfl⟩ | ⟨rfl, rfl⟩ | ⟨rfl, rfl⟩ | ⟨rfl, rfl⟩
        · gi_wp2
          exact ⟨.inr (.inl ⟨rfl, by rw [orA]⟩), by decide⟩
        · gi_wp2
          exact ⟨.inr (.inr (.inl ⟨rfl, by rw [orB]⟩)), by decide⟩
        · gi_wp2
          exact ⟨.inr (.inr (.inr ⟨rfl, by rw [orC, HOP2.out]⟩)), by decide⟩
        · have q2 : W.cell? ⟨w.heap.size, 0, none⟩ = some (.func (.func g0) #[] #[]) := (show rowV W w.heap.size 96 #[.func (.func g0) #[] #[]] from HI.out.fix (w.heap.size, _) (by simp)).cell rfl
          have heg := hd.2.1
          unfold Enters at heg
          gi_wp2
          refine ⟨trivial, ?_⟩
          have hol := opnd_lt bs i
          refine (callsIn_wide.2 (hd.2.2 ((opnd bs i : Nat) : Int) ((i : Int) + 5) W ⟨by omega, by omega⟩ ⟨by omega, by omega⟩)).mono ?_
          rintro e w6 ⟨rfl, hw6⟩
          obtain rfl : W = w6 := hw6.symm
          clear heg
          obtain ⟨Z, hZ⟩ : ∃ Z : Int, Z = ((opnd bs i : Nat) : Int) + s * ((i : Int) + 5) := ⟨_, rfl⟩
          have HZN : Hid (newC s bs i = (Z % 16777216).toNat) := by
            show _ = _
            rw [HNW.out, hZ, show ((i + 5 : Nat) : Int) = (i : Int) + 5 by omega]
          have hZb : -1000000000 ≤ Z ∧ Z ≤ 1000000000 := by
            rcases hd.1 with rfl | rfl <;> omega
          rw [← hZ]
          have HZB := Lib.hid hZb
          clear hZ HNW HOP2 hol hZb
          gi_wp2
          gi_loopw [12, 50] (fun _ j wr => ∃ t : Nat, t ≤ 3 ∧ j = .int .i64 (t : Int) ∧ Hid (InvC w (ob + 2) [(w.heap.size, .cells #[.func (.func g0) #[] #[]] 96), (ob, .cells #[.slice (some ⟨g, 0, none⟩) n c2] 23), (ob + 1, .cells #[.slice A n c] 23)] g n (putT (chg s bs k) i (newC s bs i) t) wr) ∧ Hid (wr.heap.size = W.heap.size ∧ (wr.os = W.os ∧ wr.tape = W.tape ∧ wr.output = W.output) ∧ ∀ p, p ≠ g → wr.heap[p]? = W.heap[p]?)) (fun _ j _ => 3 - (intOf j).toNat)
          case atStart => exact ⟨0, by omega, rfl, HI, Lib.hid ⟨rfl, ⟨rfl, rfl, rfl⟩, fun _ _ => rfl⟩⟩
          case round =>
            obtain ⟨t, ht, rfl, HT, HH⟩ := hrel
            by_cases ht3 : t < 3
            · have e0 : decide ((t : Int) < 3) = true := decide_eq_true (by omega)
              have e0' : decide (t < 3) = true := decide_eq_true ht3
              have rr := HT.out.row hn0
              have y0 := rr.cell (k := i + 1 + t) (by omega)
              have y1 := rr.frozen (i + 1 + t)
              have hgg := HGL.out hn0
              rcases t with _ | _ | _ | t
              · gi_wp2
                rw [byv0, ← HZN.out]
                refine ⟨⟨1, by omega, rfl, Lib.hid (HT.out.set (fun p hp => (HFX.out p hp).2 hn0) (by omega) hn0 (k := i + 1 + 0) (by omega) (byC (newC s bs i) 0)), Lib.hid ⟨by simpa [World.setCell] using HH.out.1, HH.out.2.1, fun p hp => (Below.heap_setCell wr ⟨g, _, none⟩ _ p hp).trans (HH.out.2.2 p hp)⟩⟩, by decide⟩
              · gi_wp2
                rw [byv1, ← HZN.out]
                refine ⟨⟨2, by omega, rfl, Lib.hid (HT.out.set (fun p hp => (HFX.out p hp).2 hn0) (by omega) hn0 (k := i + 1 + 1) (by omega) (byC (newC s bs i) 1)), Lib.hid ⟨by simpa [World.setCell] using HH.out.1, HH.out.2.1, fun p hp => (Below.heap_setCell wr ⟨g, _, none⟩ _ p hp).trans (HH.out.2.2 p hp)⟩⟩, by decide⟩
              · gi_wp2
                rw [byv2, ← HZN.out]
                refine ⟨⟨3, by omega, rfl, Lib.hid (HT.out.set (fun p hp => (HFX.out p hp).2 hn0) (by omega) hn0 (k := i + 1 + 2) (by omega) (byC (newC s bs i) 2)), Lib.hid ⟨by simpa [World.setCell] using HH.out.1, HH.out.2.1, fun p hp => (Below.heap_setCell wr ⟨g, _, none⟩ _ p hp).trans (HH.out.2.2 p hp)⟩⟩, by decide⟩
              · omega
            · obtain rfl : t = 3 := by omega
              gi_wp2
              have hfin := HT.out
              rw [putT3, ← HCH.out] at hfin
              have hgg := HGL.out hn0
              exact ⟨⟨by rw [HH.out.1]; exact Nat.le_refl _, fun p o hp hpo hno => (HH.out.2.2 p (by rw [Hs4.out] at hp; omega)).trans hpo⟩, ⟨HH.out.2.2 (ob + 1) (by omega), ⟨HH.out.2.1.1, HH.out.2.1.2.1, HH.out.2.1.2.2, by rw [HH.out.1]; exact Nat.le_refl _, fun p hp => HH.out.2.2 p (by omega)⟩⟩, hfin⟩
theorem callsF_any (A : Option Addr) (n c : Nat) (bs : List UInt8) (w : World) (hx : Bytes w A n c bs) (hn : n ≤ 1000000) :
    Calls Tryz.prog 33 #[.slice A n c] w (RetBytes w (if 65536 < n then [] else callsP 1 bs) (if 65536 < n then 5 else 0)) := by
  have HC := applyC_any _ 1 dirF A n c bs w hx hn
  obtain ⟨r1, hr1⟩ : ∃ r, r = (if 65536 < n then [] else callsP 1 bs) := ⟨_, rfl⟩
  obtain ⟨r2, hr2⟩ : ∃ r : Int, r = (if 65536 < n then 5 else 0) := ⟨_, rfl⟩
  rw [← hr1, ← hr2] at HC ⊢
  replace HC := Lib.hid HC
  clear hr1 hr2 hx
  go_enter Tryz.func33, Tryz.ntmps33
  go_wp2_with fail
  refine HC.out.mono ?_
  rintro e w1 ⟨A1, n1, c1, rfl, hx1, hb1⟩
  have HF := Lib.hid (And.intro hx1 hb1)
  clear hx1 hb1
  go_wp2_with fail
  go_ret2
  exact RetBytes.mk rfl HF.out.1 HF.out.2
end Go.Proofs.YtohadkmaemmfgaaGreatDoor
