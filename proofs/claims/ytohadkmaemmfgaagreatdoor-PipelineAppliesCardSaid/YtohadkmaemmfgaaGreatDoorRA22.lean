/- Zf. -/
import Derived.Test.YtohadkmaemmfgaaGreatDoorRA09
import Derived.Test.YtohadkmaemmfgaaGreatDoorRA03
import Derived.Deep.RegionHeld3
set_option maxRecDepth 100000
set_option maxHeartbeats 4000000
namespace Go.Proofs.YtohadkmaemmfgaaGreatDoor
open Go.RowKit Go.Proofs
set_option linter.unusedVariables false
set_option linter.unusedSimpArgs false
theorem run_store_fn {P : Program} {w : World} {a : Addr} {m : Mode} (f : Fn) (x y : Array Value) : (store a (.func f x y) m).run P w = stored P w a (.func f x y) m := run_store P w a _ m rfl
attribute [local go_sem] run_store_fn
theorem wrap_sub8 (x y : UInt8) : IntKind.u8.wrap ((x.toNat : Int) - (y.toNat : Int)) = (((x - y).toNat : Nat) : Int) := by
  have h1 := x.toNat_lt
  have h2 := y.toNat_lt
  rw [UInt8.toNat_sub]
  simp [IntKind.wrap, IntKind.bits, IntKind.signed]
  omega
theorem wrap_add8 (x y : UInt8) : IntKind.u8.wrap ((x.toNat : Int) + (y.toNat : Int)) = (((x + y).toNat : Nat) : Int) := by
  have h1 := x.toNat_lt
  have h2 := y.toNat_lt
  rw [UInt8.toNat_add]
  simp [IntKind.wrap, IntKind.bits, IntKind.signed]
theorem dlimits_any (A : Option Addr) (n c : Nat) (wd : Int) (w : World) : Calls Tryz.prog 126 #[.slice A n c, .int .i64 wd, .int .i64 1] w fun e w' => e = .returned (.int .i64 (limD n wd)) ∧ w' = w := by
  unfold limD
  by_cases h0 : 65536 < n
  · have d0 : decide ((65536 : Int) < (n : Int)) = true := decide_eq_true (by omega)
    have d0' : decide (65536 < n) = true := decide_eq_true (by omega)
    rw [if_pos h0]
    clear h0
    go_enter Tryz.func126, Tryz.ntmps126
    go_wp2_with fail
    go_ret
    exact ⟨rfl, rfl⟩
  · have d0 : decide ((65536 : Int) < (n : Int)) = false := decide_eq_false (by omega)
    have d0' : decide (65536 < n) = false := decide_eq_false (by omega)
    rw [if_neg h0]
    clear h0
    by_cases h1 : wd < 1
    · have d1 : decide (wd < 1) = true := decide_eq_true h1
      rw [if_pos (.inl h1)]
      clear h1
      go_enter Tryz.func126, Tryz.ntmps126
      go_wp2_with fail
      go_ret
      exact ⟨rfl, rfl⟩
    · have d1 : decide (wd < 1) = false := decide_eq_false h1
      by_cases h2 : 64 < wd
      · have d2 : decide (64 < wd) = true := decide_eq_true h2
        rw [if_pos (.inr h2)]
        clear h1 h2
        go_enter Tryz.func126, Tryz.ntmps126
        go_wp2_with fail
        go_ret
        exact ⟨rfl, rfl⟩
      · have d2 : decide (64 < wd) = false := decide_eq_false h2
        rw [if_neg (by omega)]
        clear h1 h2
        go_enter Tryz.func126, Tryz.ntmps126
        go_wp2_with fail
        go_ret
        exact ⟨rfl, rfl⟩
theorem setCell_heap_ne (w : World) (a : Addr) (v : Value) {p : Nat} (h : a.block ≠ p) : (w.setCell a v).heap[p]? = w.heap[p]? := by
  simp [World.setCell, Array.getElem?_modify, h]
def mixD (f : Nat → UInt8) (bs : List UInt8) (k : Nat) : List UInt8 := (List.range bs.length).map fun i => if i < k then f i else bA bs i
theorem mixD_length (f : Nat → UInt8) (bs : List UInt8) (k : Nat) : (mixD f bs k).length = bs.length := by simp [mixD]
theorem mixD_at {f : Nat → UInt8} {bs : List UInt8} {k i : Nat} (h : i < bs.length) : bA (mixD f bs k) i = if i < k then f i else bA bs i := by
  unfold mixD
  generalize hg : (fun i => if i < k then f i else bA bs i) = g
  have : (if i < k then f i else bA bs i) = g i := by rw [← hg]
  rw [this]
  simp [bA, List.getD, h]
theorem mixD_set {f : Nat → UInt8} {bs : List UInt8} {k : Nat} (h : k < bs.length) : (mixD f bs k).set k (f k) = mixD f bs (k + 1) := by
  refine list_ext_bA (by rw [List.length_set, mixD_length, mixD_length]) fun i hi => ?_
  rw [mixD_length] at hi
  rw [bA_set (by rw [mixD_length]; exact h), mixD_at hi, mixD_at hi]
  by_cases e : k = i
  · subst e; rw [if_pos rfl, if_pos (by omega)]
  · rw [if_neg e]
    by_cases h2 : i < k
    · rw [if_pos h2, if_pos (by omega)]
    · rw [if_neg h2, if_neg (by omega)]
theorem mixD_start {f : Nat → UInt8} {bs : List UInt8} {k : Nat} (h : ∀ i, i < k → f i = bA bs i) : mixD f bs k = bs := by
  refine list_ext_bA (mixD_length _ _ _) fun i hi => ?_
  rw [mixD_at hi]
  by_cases h2 : i < k
  · rw [if_pos h2, h i h2]
  · rw [if_neg h2]
theorem mixD_end (f : Nat → UInt8) (bs : List UInt8) : mixD f bs bs.length = (List.range bs.length).map f := by
  unfold mixD
  refine List.map_congr_left fun i hi => ?_
  rw [if_pos (List.mem_range.1 hi)]
theorem mixD_low {f : Nat → UInt8} {bs : List UInt8} {k : Nat} (h : ∀ i, i < k → f i = bA bs i) (hk : bs.length ≤ k) : (List.range bs.length).map f = bs := by
  rw [← mixD_end]
  exact mixD_start fun i hi => h i (by omega)
theorem again0_any (A : Option Addr) (n c : Nat) (bs : List UInt8) (ga gs gw : Option Addr) (w : World) (hx : Bytes w A n c bs) (hn : n ≤ 1000000) :
    Calls Tryz.prog 127 #[.slice A n c, .int .i64 0, .pointer ga, .pointer gs, .pointer gw] w (RetOwn w.heap.size w bs) := by
  have HC := Lib.hid (clone_any A n c bs w hx hn)
  go_enter Tryz.func127, Tryz.ntmps127
  go_wp2_with fail
  refine HC.out.mono ?_
  rintro e w1 ⟨A1, n1, c1, rfl, ho1, hb1⟩
  have HF := Lib.hid (And.intro ho1 hb1)
  clear ho1 hb1
  go_wp2_with fail
  go_ret
  exact RetOwn.mk HF.out.1 HF.out.2
theorem dif_any (x y : UInt8) (w : World) : Calls Tryz.prog 129 #[.int .u8 (x.toNat : Int), .int .u8 (y.toNat : Int)] w fun e w' => e = .returned (.int .u8 (((x - y).toNat : Nat) : Int)) ∧ w' = w := by
  have hw8 := wrap_sub8 x y
  go_enter Tryz.func129, Tryz.ntmps129
  go_wp2_with fail
  go_ret
  exact ⟨rfl, rfl⟩
def difV : Array Value := #[.func (.func 129) #[] #[], .bool false]
theorem difI : (Tryz.prog.info? 89).map (·.size) = some difV.size := by kernel_rfl
theorem difO : difV.all (·.oneCell') = true := by simp [difV, Value.oneCell']
theorem difStep_any (w : World) : Calls Tryz.prog 70 #[] w fun e w' => e = .returned (.agg difV) ∧ Below w.heap.size w w' := by
  have HB := Lib.hid (balloc (Below.refl w.heap.size w) (.cells difV 89))
  have r := rowV.new w 89 difV
  go_enter Tryz.func70, Tryz.ntmps70
  go_wp2_with (refine wpList_store_new rfl 89 (.tmp 0) (.tmp 1) rfl difV _ _ rfl rfl difI rfl difO ?_)
  exact bodyPost_ret (v := .agg difV) (results_cell_row rfl _ _ _ _ _ _ _ rfl r Tryz.underlying89 rfl difI) rfl ⟨rfl, HB.out⟩
theorem applyF_any (A : Option Addr) (n c wd : Nat) (bs : List UInt8) (w : World) (hx : Bytes w A n c bs) (hn : n ≤ 1000000) (hw : 1 ≤ wd) (hw2 : wd ≤ 1000000) :
    Calls Tryz.prog 128 #[.agg difV, .slice A n c, .int .i64 (wd : Int)] w fun e w' => ∃ A' c', e = .returned (.slice A' n c') ∧ Bytes w' A' n c' (deltaF wd bs) ∧ Below w.heap.size w w' := by
  obtain ⟨w0, hw0⟩ : ∃ w0, w0 = w.alloc (.cells difV 89) := ⟨_, rfl⟩
  have hb0 : Below w.heap.size w w0 := by rw [hw0]; exact balloc (Below.refl _ _) _
  have r0 : rowV w0 w.heap.size 89 difV := by rw [hw0]; exact rowV.new w _ _
  have HC := Lib.hid (clone_any A n c bs w0 (hx.below hb0) hn)
  have HX := Lib.hid (hx.below hb0)
  have HB0 := Lib.hid hb0
  have HW0 := Lib.hid hw0
  have Hl := Lib.hid hx.1
  have HXw := Lib.hid hx
  have c0 : w0.cell? ⟨w.heap.size, 0, none⟩ = some (.func (.func 129) #[] #[]) := r0.cell rfl
  have R0 := Lib.hid r0
  clear hx hb0 hw0 r0 c0
  go_enter Tryz.func128, Tryz.ntmps128
  unfold difV
  go_wp2_with fail
  rw [show w.alloc (.cells #[.func (.func 129) #[] #[], .bool false] 89) = w0 from HW0.out.symm]
  refine HC.out.mono ?_
  rintro e w1 ⟨A1, n1, c1, rfl, ho1, hb1⟩
  obtain rfl : n = n1 := by rw [← ho1.length]; exact Hl.out.symm
  have r1 := R0.out.below hb1 R0.out.lt
  have c1b : w1.cell? ⟨w.heap.size, 1, none⟩ = some (.bool false) := r1.cell rfl
  have R1 := Lib.hid r1
  have HB1 := Lib.hid (HB0.out.trans (hb1.mono HB0.out.size))
  have HX1 := Lib.hid (HX.out.below hb1)
  have HO := Lib.hid ho1
  clear HC r1 ho1 hb1 R0 HB0 HX
  by_cases hlt : wd < n
  · obtain ⟨g, rfl, hg, hr⟩ := RowB.of_own HO.out (by omega)
    obtain ⟨b, off, rfl, hblt, hcb⟩ := HXw.out.2.2 (by omega)
    have hcap := HO.out.cap
    have hgw : g ≠ w.heap.size := by
      rw [HW0.out, World.size_alloc] at hg
      omega
    have hgB : w.heap.size ≤ g := by
      rw [HW0.out, World.size_alloc] at hg
      omega
    have HR := Lib.hid hr
    have HST := Lib.hid (mixD_start (f := dfF wd bs) (bs := bs) (k := wd) fun i hi => by unfold dfF; rw [if_pos hi])
    have HGB := Lib.hid hgB
    have hgl := Lib.hid hr.lt
    clear hcb hr hblt hg hgB HO HX1 HW0
    go_wp2_with fail
    go_loopw [9] (fun i wr => ∃ j : Nat, wd + j ≤ n ∧ i = .int .i64 (((wd + j : Nat) : Nat) : Int) ∧ Hid (RowB wr g n (mixD (dfF wd bs) bs (wd + j))) ∧ Hid (Below w.heap.size w wr) ∧ Hid (∀ p, p ≠ g → p < w1.heap.size → wr.heap[p]? = w1.heap[p]?)) (fun i _ => n - (intOf i).toNat)
    case atStart => exact ⟨0, by omega, rfl, Lib.hid (by rw [Nat.add_zero, HST.out]; exact HR.out), HB1, Lib.hid fun _ _ _ => rfl⟩
    case round =>
      obtain ⟨j, hj, rfl, HRj, HBj, HPj⟩ := hrel
      have hpw := HPj.out w.heap.size (Ne.symm hgw) R1.out.lt
      have rj : rowV wr w.heap.size 89 difV := hpw.trans R1.out
      have q0 : wr.cell? ⟨w.heap.size, 0, none⟩ = some (.func (.func 129) #[] #[]) := rj.cell rfl
      by_cases hjn : wd + j < n
      · have d0 : decide (((wd + j : Nat) : Int) < (n : Int)) = true := decide_eq_true (by omega)
        have d0' : decide ((wd : Int) + (j : Int) < (n : Int)) = true := decide_eq_true (by omega)
        have d0'' : decide (wd + j < n) = true := decide_eq_true hjn
        have q1 : wr.cell? ⟨b, off + (wd + j), none⟩ = some (.int .u8 ((bA bs (wd + j)).toNat : Int)) := (HXw.out.below HBj.out).cell hjn
        have rg := HRj.out.cell hjn
        rw [gb_bA, mixD_at (by rw [Hl.out]; exact hjn), if_neg (by omega)] at rg
        have fg := HRj.out.frozen (wd + j)
        have q2 : wr.cell? ⟨b, off + j, none⟩ = some (.int .u8 ((bA bs j).toNat : Int)) := (HXw.out.below HBj.out).cell (by omega)
        have HD : Hid (dfF wd bs (wd + j) = bA bs (wd + j) - bA bs j) := by show _ = _; unfold dfF; rw [if_neg (by omega), Nat.add_sub_cancel_left]
        have HN : Hid (∀ q, RowB ((wr.drewN q).setCell ⟨g, wd + j, none⟩ (.int .u8 ((bA bs (wd + j) - bA bs j).toNat : Int))) g n (mixD (dfF wd bs) bs (wd + (j + 1)))) := fun q => by
          rw [← HD.out, ← Nat.add_assoc, ← mixD_set (by rw [Hl.out]; exact hjn)]
          exact RowB.set (HRj.out.keep rfl) hjn _
        have HCL := Lib.hid (fun W => dif_any (bA bs (wd + j)) (bA bs j) W)
        have HB2 : Hid (∀ q v, Below w.heap.size w ((wr.drewN q).setCell ⟨g, wd + j, none⟩ v)) := fun q v => (bdrew HBj.out q).setCell (p := ⟨g, wd + j, none⟩) HGB.out v
        have HP2 : Hid (∀ q v p, p ≠ g → p < w1.heap.size → ((wr.drewN q).setCell ⟨g, wd + j, none⟩ v).heap[p]? = w1.heap[p]?) := fun q v p hp hpl => (setCell_heap_ne _ _ _ (Ne.symm hp)).trans (HPj.out p hp hpl)
        obtain ⟨x1, hx1⟩ : ∃ x, x = bA bs (wd + j) := ⟨_, rfl⟩
        obtain ⟨x2, hx2⟩ : ∃ x, x = bA bs j := ⟨_, rfl⟩
        rw [← hx1] at q1 rg HN HCL
        rw [← hx2] at q2 HN HCL
        clear hx1 hx2 HD rj hpw HRj HBj HPj
        go_wp2_with fail
        refine wp_region_quiet_tail 16 (by kernel_rfl) (by kernel_rfl) ?_
        simp only [List.take_succ_cons, List.take_zero, List.drop_succ_cons, List.drop_zero]
        repeat (go_big_quiet_step (first | (go_at_call 129; exact Calls.quiet_of_same (HCL.out _))))
        refine wpQuiet_nil ?_
        intro _ hw'
        obtain ⟨nq, hw''⟩ := hw'
        subst hw''
        go_wp2_with fail
        go_roundw
        case rel => exact ⟨j + 1, by omega, by go_num, Lib.hid (HN.out nq), Lib.hid (HB2.out nq _), Lib.hid (HP2.out nq _)⟩
        case measure => (simp [intOf]) <;> omega
      · have he : wd + j = n := by omega
        have d0 : decide (((wd + j : Nat) : Int) < (n : Int)) = false := decide_eq_false (by omega)
        have d0' : decide ((wd : Int) + (j : Int) < (n : Int)) = false := decide_eq_false (by omega)
        have d0'' : decide (wd + j < n) = false := decide_eq_false hjn
        have hrn := HRj.out
        have HF : Hid (Bytes wr (some ⟨g, 0, none⟩) n c1 (deltaF wd bs)) := by
          show Bytes _ _ _ _ _
          unfold deltaF
          rw [← mixD_end, Hl.out, ← he]
          rw [he] at hrn ⊢
          exact hrn.bytes hcap
        clear hrn rj hpw he hjn
        go_wp2_with fail
        go_ret
        exact ⟨_, _, rfl, HF.out, HBj.out⟩
  · have d0 : decide ((wd : Int) < (n : Int)) = false := decide_eq_false (by omega)
    have d0' : decide (wd < n) = false := decide_eq_false hlt
    have hlow : deltaF wd bs = bs := mixD_low (k := wd) (fun i hi => by unfold dfF; rw [if_pos hi]) (by rw [Hl.out]; omega)
    have HF := HO.out.bytesB
    rw [← hlow] at HF
    replace HF := Lib.hid HF
    clear hlt hlow
    go_wp2_with fail
    refine wp_loop_rounds 1 ?_
    rw [rounds_succ]
    go_wp2_with fail
    go_ret
    exact ⟨_, _, rfl, HF.out, HB1.out⟩
def difS (ga gs gw wd : Nat) (W : World) : Prop := W.cell? ⟨ga, 0, none⟩ = some (.func (.func 127) #[] #[.pointer (some ⟨ga, 0, none⟩), .pointer (some ⟨gs, 0, none⟩), .pointer (some ⟨gw, 0, none⟩)]) ∧ W.cell? ⟨gs, 0, none⟩ = some (.func (.func 129) #[] #[]) ∧ W.cell? ⟨gs, 1, none⟩ = some (.bool false) ∧ W.cell? ⟨gw, 0, none⟩ = some (.int .i64 (wd : Int))
theorem again1F_any (A : Option Addr) (n c wd : Nat) (bs : List UInt8) (ga gs gw : Nat) (w : World) (hx : Bytes w A n c bs) (hn : n ≤ 1000000) (hw : 1 ≤ wd) (hw2 : wd ≤ 1000000) (hS : difS ga gs gw wd w) :
    Calls Tryz.prog 127 #[.slice A n c, .int .i64 1, .pointer (some ⟨ga, 0, none⟩), .pointer (some ⟨gs, 0, none⟩), .pointer (some ⟨gw, 0, none⟩)] w (RetOwn w.heap.size w (deltaF wd bs)) := by
  have HC : Hid (∀ q, Calls Tryz.prog 128 #[.agg difV, .slice A n c, .int .i64 (wd : Int)] (w.drewN q) fun e w' => ∃ A' c', e = .returned (.slice A' n c') ∧ Bytes w' A' n c' (deltaF wd bs) ∧ Below w.heap.size w w') := fun q => by
    refine (applyF_any A n c wd bs (w.drewN q) (hx.below ((Drawn.drewN w q).below _)) hn hw hw2).mono ?_
    rintro e w' ⟨A', c', rfl, h1, h2⟩
    exact ⟨A', c', rfl, h1, ((Drawn.drewN w q).below _).trans h2⟩
  have hl : (deltaF wd bs).length = n := by rw [deltaF_length]; exact hx.1
  have HK : Hid (∀ w', Below w.heap.size w w' → difS ga gs gw wd w') := fun w' hb => by
    obtain ⟨h1, h2, h3, h4⟩ := hS
    exact ⟨(hb.cell (p := ⟨ga, 0, none⟩) (World.block_lt_of_cell? w _ h1)).trans h1, (hb.cell (p := ⟨gs, 0, none⟩) (World.block_lt_of_cell? w _ h2)).trans h2, (hb.cell (p := ⟨gs, 1, none⟩) (World.block_lt_of_cell? w _ h3)).trans h3, (hb.cell (p := ⟨gw, 0, none⟩) (World.block_lt_of_cell? w _ h4)).trans h4⟩
  obtain ⟨ds, hds⟩ : ∃ ds, ds = deltaF wd bs := ⟨_, rfl⟩
  rw [← hds] at HC hl ⊢
  clear hds hx
  have Hl := Lib.hid hl
  clear hl
  unfold difV at HC
  unfold difS at hS HK
  go_enter Tryz.func127, Tryz.ntmps127
  go_wp2_with fail
  go_region_held3 (fun W => W.cell? ⟨ga, 0, none⟩ = some (.func (.func 127) #[] #[.pointer (some ⟨ga, 0, none⟩), .pointer (some ⟨gs, 0, none⟩), .pointer (some ⟨gw, 0, none⟩)]) ∧ W.cell? ⟨gs, 0, none⟩ = some (.func (.func 129) #[] #[]) ∧ W.cell? ⟨gs, 1, none⟩ = some (.bool false) ∧ W.cell? ⟨gw, 0, none⟩ = some (.int .i64 (wd : Int)))
    (first | go_keep | exact hS | exact HK.out _ hb1 | exact HK.out _ hb2)
    (first
      | (go_at_call 128; refine (HC.out _).mono ?_; rintro e w1 ⟨A1, c1, rfl, hx1, hb1⟩)
      | (go_at_call 127; refine (again0_any _ _ _ ds _ _ _ _ hx1 hn).mono ?_; rintro e w2 ⟨A2, n2, c2, rfl, ho2, hb2'⟩; have hb2 := hb1.trans (hb2'.mono hb1.size)))
  trace_state
  go_wp2_with fail
  go_ret
  exact RetOwn.mk (ho2.mono hb1.size) hb2
theorem repeatedF_any (A : Option Addr) (n c : Nat) (wd : Int) (bs : List UInt8) (w : World) (hx : Bytes w A n c bs) (hn : n ≤ 1000000) :
    Calls Tryz.prog 69 #[.agg difV, .slice A n c, .int .i64 wd, .int .i64 1] w (RetBytes w (if limD n wd = 0 then deltaF wd.toNat bs else []) (limD n wd)) := by
  have H1 := Lib.hid (fun W => dlimits_any A n c wd W)
  have hb1 : Below w.heap.size w ((w.alloc (.cells difV 89)).alloc (.cells #[.int .i64 wd] 3)) := balloc (balloc (Below.refl _ _) _) _
  by_cases h0 : limD n wd = 0
  · rw [if_pos h0]
    rw [h0] at H1 ⊢
    obtain ⟨wn, rfl⟩ : ∃ wn : Nat, wd = (wn : Int) := ⟨wd.toNat, by unfold limD at h0; split at h0; (cases h0); split at h0; (cases h0); omega⟩
    have hw : 1 ≤ wn ∧ wn ≤ 64 := by unfold limD at h0; split at h0; (cases h0); split at h0; (cases h0); omega
    rw [Int.toNat_natCast]
    obtain ⟨w2, hw2⟩ : ∃ w2, w2 = (w.alloc (.cells difV 89)).alloc (.cells #[.int .i64 (wn : Int)] 3) := ⟨_, rfl⟩
    rw [← hw2] at hb1
    have e1 : (w.alloc (.cells difV 89)).heap.size = w.heap.size + 1 := World.size_alloc ..
    have e2 : w2.heap.size = w.heap.size + 2 := by rw [hw2, World.size_alloc, World.size_alloc]
    have r1 : rowV w2 w.heap.size 89 difV := by
      rw [hw2]
      exact (rowV.new w _ _).below (balloc (Below.refl _ _) _) (by rw [e1]; omega)
    have r2 : rowV w2 (w.heap.size + 1) 3 #[.int .i64 (wn : Int)] := by
      rw [hw2]
      have := rowV.new (w.alloc (.cells difV 89)) 3 #[.int .i64 (wn : Int)]
      rwa [e1] at this
    obtain ⟨w3, hw3⟩ : ∃ w3, w3 = w2.alloc (.cells #[.func (.func 127) #[] #[.pointer (some ⟨w2.heap.size, 0, none⟩), .pointer (some ⟨w.heap.size, 0, none⟩), .pointer (some ⟨w.heap.size + 1, 0, none⟩)]] 100) := ⟨_, rfl⟩
    have hb23 : Below w2.heap.size w2 w3 := by rw [hw3]; exact balloc (Below.refl _ _) _
    have hb3 : Below w.heap.size w w3 := hb1.trans (hb23.mono hb1.size)
    have r3 : w3.cell? ⟨w2.heap.size, 0, none⟩ = some (.func (.func 127) #[] #[.pointer (some ⟨w2.heap.size, 0, none⟩), .pointer (some ⟨w.heap.size, 0, none⟩), .pointer (some ⟨w.heap.size + 1, 0, none⟩)]) := by
      rw [hw3]
      exact (rowV.new w2 _ _).cell (j := 0) rfl
    have r1' := r1.below hb23 r1.lt
    have r2' := r2.below hb23 r2.lt
    have hS : difS w2.heap.size w.heap.size (w.heap.size + 1) wn w3 := ⟨r3, r1'.cell rfl, r1'.cell rfl, r2'.cell rfl⟩
    have HG := Lib.hid (again1F_any A n c wn bs w2.heap.size w.heap.size (w.heap.size + 1) w3 (hx.below hb3) hn hw.1 (by omega) hS)
    have HB3 := Lib.hid hb3
    have HW3 := Lib.hid hw3
    have HW2 := Lib.hid hw2
    have c2 : w2.cell? ⟨w.heap.size + 1, 0, none⟩ = some (.int .i64 (wn : Int)) := r2.cell rfl
    clear hx hb1 hw3 hw2 hb3 hb23 r1 r2 r3 r1' r2' hS hw h0 e1 e2
    go_enter Tryz.func69, Tryz.ntmps69
    unfold difV at *
    go_wp2_with fail
    rw [← HW2.out]
    refine (H1.out _).mono ?_
    rintro e wq ⟨rfl, hq⟩
    obtain rfl := hq.symm
    go_wp2_with fail
    rw [← HW3.out]
    refine HG.out.mono ?_
    rintro e w4 ⟨A4, n4, c4, rfl, ho4, hb4⟩
    have HF := Lib.hid (And.intro ho4 (HB3.out.trans (hb4.mono HB3.out.size)))
    clear ho4 hb4
    go_wp2_with fail
    go_ret2
    exact RetBytes.mk rfl HF.out.1.bytesB HF.out.2
  · rw [if_neg h0]
    have q0 : (limD n wd == 0) = false := by simpa using h0
    have q0' : (limD n wd != 0) = true := by simpa using h0
    obtain ⟨ld, hld⟩ : ∃ ld, ld = limD n wd := ⟨_, rfl⟩
    rw [← hld] at H1 q0 q0' ⊢
    obtain ⟨w2, hw2⟩ : ∃ w2, w2 = (w.alloc (.cells difV 89)).alloc (.cells #[.int .i64 wd] 3) := ⟨_, rfl⟩
    have c2 : w2.cell? ⟨w.heap.size + 1, 0, none⟩ = some (.int .i64 wd) := by
      have := (rowV.new (w.alloc (.cells difV 89)) 3 #[.int .i64 wd]).cell (j := 0) rfl
      rwa [World.size_alloc, ← hw2] at this
    rw [← hw2] at hb1
    have HW2 := Lib.hid hw2
    have HB := Lib.hid hb1
    clear hx hw2 hb1 hld h0
    go_enter Tryz.func69, Tryz.ntmps69
    unfold difV at *
    go_wp2_with fail
    rw [← HW2.out]
    refine (H1.out _).mono ?_
    rintro e wq ⟨rfl, hq⟩
    obtain rfl := hq.symm
    go_wp2_with fail
    go_ret2
    exact RetBytes.err rfl HB.out
theorem deltaF_any (A : Option Addr) (n c : Nat) (wd : Int) (bs : List UInt8) (w : World) (hx : Bytes w A n c bs) (hn : n ≤ 1000000) :
    Calls Tryz.prog 28 #[.slice A n c, .int .i64 wd] w (RetBytes w (if limD n wd = 0 then deltaF wd.toNat bs else []) (limD n wd)) := by
  have HX := Lib.hid hx
  obtain ⟨rs, hrs⟩ : ∃ rs, rs = (if limD n wd = 0 then deltaF wd.toNat bs else []) := ⟨_, rfl⟩
  have HR := Lib.hid (fun W h => repeatedF_any A n c wd bs W h hn)
  rw [← hrs] at HR ⊢
  clear hx hrs
  go_enter Tryz.func28, Tryz.ntmps28
  go_wp2_with fail
  refine (difStep_any _).mono ?_
  rintro e w1 ⟨rfl, hb1⟩
  go_wp2_with fail
  refine (HR.out w1 (HX.out.below hb1)).mono ?_
  rintro e w2 ⟨A2, n2, c2, rfl, hx2, hb2⟩
  have HF := Lib.hid (And.intro hx2 (hb1.trans (hb2.mono hb1.size)))
  clear hx2 hb1 hb2
  go_wp2_with fail
  go_ret2
  exact RetBytes.mk rfl HF.out.1 HF.out.2
end Go.Proofs.YtohadkmaemmfgaaGreatDoor
