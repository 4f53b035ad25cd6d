/- Contract of suffix.Find. -/
import Derived.Test.YtkndcbnajkiceaaWk
import Derived.Laws.EntriesVeiled
namespace Go.Proofs.Ytkndcbnajkiceaa
open Go.RowKit Go.Proofs
set_option linter.unusedVariables false

theorem cmpL_pos (x y : List UInt8) : 0 < cmpL x y ↔ less y x = true := by
  have h1 := cmpL_neg x y
  have h2 := cmpL_zero x y
  constructor
  · intro h
    have hne : x ≠ y := fun e => by have := h2.2 e; omega
    rcases less_total hne with h3 | h3
    · have := h1.2 h3; omega
    · exact h3
  · intro h
    have h3 : ¬ cmpL x y < 0 := fun h4 => by rw [less_asymm (h1.1 h4)] at h; cases h
    have h4 : ¬ cmpL x y = 0 := fun h5 => by rw [h2.1 h5, less_irrefl] at h; cases h
    omega
theorem less_take : ∀ {x pat : List UInt8}, less (x.take pat.length) pat = less x pat
  | x, [] => by simp [less_nil]
  | [], b :: p => by simp
  | a :: x, b :: p => by
    have ih := less_take (x := x) (pat := p)
    rw [List.length_cons, List.take_succ_cons, Bool.eq_iff_iff, less_cons, less_cons, ih]
theorem take_mono : ∀ {l : Nat} {x y : List UInt8}, less x y = true → less (x.take l) (y.take l) = true ∨ x.take l = y.take l
  | 0, _, _, _ => .inr (by simp)
  | l + 1, x, [], h => by rw [less_nil] at h; cases h
  | l + 1, [], b :: y, _ => .inl (by simp [nil_less])
  | l + 1, a :: x, b :: y, h => by
    rw [List.take_succ_cons, List.take_succ_cons, less_cons]
    rcases (less_cons _ _ _ _).1 h with h1 | ⟨rfl, h1⟩
    · exact .inl (.inl h1)
    · rcases take_mono (l := l) h1 with h2 | h2
      · exact .inl (.inr ⟨rfl, h2⟩)
      · exact .inr (by rw [h2])

section
variable {bs : List UInt8} {zs : List Int} {pat : List UInt8} (hs : zs.Pairwise (before bs))
theorem low_le : lowOf bs zs pat ≤ zs.length := by unfold lowOf ahead; exact (List.takeWhile_sublist _).length_le
theorem ahead_lt {f : Int → Bool} {l : List Int} {i : Nat} (h : i < ahead f l) : f (gi l i) = true := by
  have h1 := (ahead_split f l).1
  have hl : ahead f l ≤ l.length := by unfold ahead; exact (List.takeWhile_sublist _).length_le
  exact h1 _ (by rw [gi_get (by omega)]; exact List.mem_iff_getElem.2 ⟨i, by simp; omega, by simp⟩)
theorem ahead_at {f : Int → Bool} {l : List Int} (h : ahead f l < l.length) : f (gi l (ahead f l)) = false := by
  refine (ahead_split f l).2 _ ?_
  rw [List.head?_drop, List.getElem?_eq_getElem h, gi_get h]
include hs
theorem sorted_lt {i j : Nat} (hij : i < j) (hj : j < zs.length) : less (sfx bs (gi zs i)) (sfx bs (gi zs j)) = true := by
  rw [gi_get hj, gi_get (by omega)]
  exact List.pairwise_iff_getElem.1 hs i j (by omega) hj hij
theorem low_spec : (∀ i, i < lowOf bs zs pat → decide (0 ≤ cmpL (beg bs zs pat.length i) pat) = false) ∧ (∀ i, lowOf bs zs pat ≤ i → i < zs.length → decide (0 ≤ cmpL (beg bs zs pat.length i) pat) = true) := by
  constructor
  · intro i hi
    have h1 : less (sfx bs (gi zs i)) pat = true := ahead_lt hi
    have h2 := (cmpL_neg (beg bs zs pat.length i) pat).2 (by unfold beg; rw [less_take]; exact h1)
    simp; omega
  · intro i hi hl
    have h1 : less (sfx bs (gi zs (lowOf bs zs pat))) pat = false := ahead_at (by show lowOf bs zs pat < _; omega)
    have h2 : ¬ less (sfx bs (gi zs i)) pat = true := fun h => by
      rcases Nat.lt_or_ge (lowOf bs zs pat) i with h3 | h3
      · have := less_trans (sorted_lt hs h3 hl) h; rw [h1] at this; cases this
      · have : i = lowOf bs zs pat := by omega
        rw [this, h1] at h; cases h
    have h3 : ¬ cmpL (beg bs zs pat.length i) pat < 0 := fun h => h2 (by have := (cmpL_neg _ _).1 h; unfold beg at this; rwa [less_take] at this)
    simp; omega
theorem high_spec : highOf bs zs pat ≤ zs.length ∧ (∀ i, i < highOf bs zs pat → decide (0 < cmpL (beg bs zs pat.length i) pat) = false) ∧ (∀ i, highOf bs zs pat ≤ i → i < zs.length → decide (0 < cmpL (beg bs zs pat.length i) pat) = true) := by
  have hlow := low_spec (pat := pat) hs
  have hle : ahead (fun z => begins pat (sfx bs z)) (zs.drop (lowOf bs zs pat)) ≤ (zs.drop (lowOf bs zs pat)).length := by unfold ahead; exact (List.takeWhile_sublist _).length_le
  have hll := low_le (bs := bs) (zs := zs) (pat := pat)
  rw [List.length_drop] at hle
  refine ⟨by unfold highOf; omega, fun i hi => ?_, fun i hi hl => ?_⟩
  · rcases Nat.lt_or_ge i (lowOf bs zs pat) with h | h
    · have := hlow.1 i h
      simp at this ⊢
      omega
    · have h1 := ahead_lt (f := fun z => begins pat (sfx bs z)) (l := zs.drop (lowOf bs zs pat)) (i := i - lowOf bs zs pat) (by unfold highOf at hi; omega)
      rw [gi_drop, show lowOf bs zs pat + (i - lowOf bs zs pat) = i by omega] at h1
      have h2 : beg bs zs pat.length i = pat := of_decide_eq_true h1
      rw [h2, (cmpL_zero pat pat).2 rfl]
      simp
  · have hh : highOf bs zs pat < zs.length := by omega
    have h1 : begins pat (sfx bs (gi zs (highOf bs zs pat))) = false := by
      have := ahead_at (f := fun z => begins pat (sfx bs z)) (l := zs.drop (lowOf bs zs pat)) (by rw [List.length_drop]; unfold highOf at hh; omega)
      rwa [gi_drop] at this
    have h2 : beg bs zs pat.length (highOf bs zs pat) ≠ pat := of_decide_eq_false h1
    have h3 := hlow.2 (highOf bs zs pat) (by unfold highOf; omega) hh
    have h4 : less pat (beg bs zs pat.length (highOf bs zs pat)) = true := by
      rw [← cmpL_pos]
      have h6 : ¬ cmpL (beg bs zs pat.length (highOf bs zs pat)) pat = 0 := fun h => h2 ((cmpL_zero _ _).1 h)
      have h7 : 0 ≤ cmpL (beg bs zs pat.length (highOf bs zs pat)) pat := by simpa using h3
      omega
    have h5 : less pat (beg bs zs pat.length i) = true := by
      rcases Nat.lt_or_ge (highOf bs zs pat) i with h | h
      · rcases take_mono (l := pat.length) (sorted_lt hs h hl) with h6 | h6
        · exact less_trans h4 h6
        · unfold beg at h4 ⊢; rw [← h6]; exact h4
      · rw [show i = highOf bs zs pat by omega]; exact h4
    simpa using (cmpL_pos _ _).2 h5
end

theorem three_boxes (w : World) (o1 o2 o3 : Obj) : ((w.alloc o1).alloc o2).heap.size = w.heap.size + 1 + 1 ∧ (((w.alloc o1).alloc o2).alloc o3).heap.size = w.heap.size + 1 + 1 + 1 := by simp

set_option maxHeartbeats 2000000 in
theorem find_any (A B C : Option Addr) (c n d m f l : Nat) (bs : List UInt8) (zs : List Int) (pat : List UInt8) (w : World) (hx : Bytes w A n c bs) (hy : Ints w B m d zs) (hq : Bytes w C l f pat) (hn : n ≤ 65536) (hm : m ≤ 65537) (hl : l ≤ 65536) :
    Calls Try.prog 20 #[.slice A n c, .slice B m d, .slice C l f] w fun e w' => e = .returned (.tuple #[.int .i64 (findLow bs zs pat), .int .i64 (findHigh bs zs pat), .int .i64 (findErr bs zs pat)]) ∧ Below w.heap.size w w' := by
  have hb0 : Below w.heap.size w (((w.alloc (.cells #[.slice A n c] 22)).alloc (.cells #[.slice B m d] 24)).alloc (.cells #[.slice C l f] 22)) := (((Below.refl _ _).alloc (Nat.le_refl _) _).alloc (by simp) _).alloc (by simp; omega) _
  have hcal := check_any A B c n d m bs zs _ (hx.below hb0) (hy.below hb0) hn hm
  have Hcal := Lib.hid hcal; clear hcal
  go_enter Try.func20, Try.ntmps20
  go_wp2_with fail
  refine Hcal.out.mono ?_
  rintro e w1 ⟨rfl, hb1⟩
  have s0 := (three_boxes w (.cells #[.slice A n c] 22) (.cells #[.slice B m d] 24) (.cells #[.slice C l f] 22)).2
  have rX : Row id w1 w.heap.size 22 [.slice A n c] := (((Row.one_new w _ _).alloc _).alloc _).below hb1 (by omega)
  have rO : Row id w1 (w.heap.size + 1) 24 [.slice B m d] := by
    have h := ((Row.one_new (w.alloc (.cells #[.slice A n c] 22)) 24 (.slice B m d)).alloc (.cells #[.slice C l f] 22)).below hb1 (by simp)
    simpa using h
  have rT : Row id w1 (w.heap.size + 1 + 1) 22 [.slice C l f] := by
    have h := (Row.one_new ((w.alloc (.cells #[.slice A n c] 22)).alloc (.cells #[.slice B m d] 24)) 22 (.slice C l f)).below hb1 (by simp)
    simpa using h
  have hb2 : Below w.heap.size w w1 := hb0.trans (hb1.mono (by omega))
  clear s0 hb1 Hcal hb0
  have x1 := rX.one
  have x2 := rO.one
  have x3 := rT.one
  by_cases hp : checkErr bs zs = 0
  · have d2 : (checkErr bs zs != 0) = false := by simp [hp]
    have d3 : decide ((65536 : Int) < (l : Int)) = false := by simp; omega
    obtain ⟨hv1, hv2, hv3, hv4⟩ := checkErr_zero hp
    have hlm := hy.1
    have hln := hx.1
    have hlp := hq.1
    have hz : ∀ i, i < m → 0 ≤ gi zs i ∧ gi zs i ≤ n := fun i hi => by
      have := ((permErr_zero_iff zs).1 hv3).1 (gi zs i) (gi_mem (by omega))
      omega
    have he : findErr bs zs pat = 0 := by unfold findErr; rw [if_neg (by omega), if_neg (by omega)]
    have hso := pairwise_of_ascB hv4
    have hlo := low_spec (pat := pat) hso
    have hhi := high_spec (pat := pat) hso
    have hll := low_le (bs := bs) (zs := zs) (pat := pat)
    rw [hlp, hlm] at hlo hhi
    rw [hlm] at hll
    have hx1 := hx.below hb2
    have hy1 := hy.below hb2
    have hq1 := hq.below hb2
    -- the two searches
    obtain ⟨W, hW⟩ : ∃ W, W = (w1.alloc (.cells #[.func (.func 34) #[] #[.pointer (some ⟨w.heap.size + 1, 0, none⟩), .pointer (some ⟨w.heap.size, 0, none⟩), .pointer (some ⟨w.heap.size + 1 + 1, 0, none⟩)]] 56)).alloc (.cells #[.func (.func 35) #[] #[.pointer (some ⟨w1.heap.size, 0, none⟩), .pointer (some ⟨w.heap.size + 1 + 1, 0, none⟩)], .func (.func 37) #[] #[.pointer (some ⟨w1.heap.size, 0, none⟩), .pointer (some ⟨w.heap.size + 1 + 1, 0, none⟩)]] 57) := ⟨_, rfl⟩
    have sX := (rX.alloc (.cells #[.func (.func 34) #[] #[.pointer (some ⟨w.heap.size + 1, 0, none⟩), .pointer (some ⟨w.heap.size, 0, none⟩), .pointer (some ⟨w.heap.size + 1 + 1, 0, none⟩)]] 56)).alloc (.cells #[.func (.func 35) #[] #[.pointer (some ⟨w1.heap.size, 0, none⟩), .pointer (some ⟨w.heap.size + 1 + 1, 0, none⟩)], .func (.func 37) #[] #[.pointer (some ⟨w1.heap.size, 0, none⟩), .pointer (some ⟨w.heap.size + 1 + 1, 0, none⟩)]] 57)
    have sO := (rO.alloc (.cells #[.func (.func 34) #[] #[.pointer (some ⟨w.heap.size + 1, 0, none⟩), .pointer (some ⟨w.heap.size, 0, none⟩), .pointer (some ⟨w.heap.size + 1 + 1, 0, none⟩)]] 56)).alloc (.cells #[.func (.func 35) #[] #[.pointer (some ⟨w1.heap.size, 0, none⟩), .pointer (some ⟨w.heap.size + 1 + 1, 0, none⟩)], .func (.func 37) #[] #[.pointer (some ⟨w1.heap.size, 0, none⟩), .pointer (some ⟨w.heap.size + 1 + 1, 0, none⟩)]] 57)
    have sT := (rT.alloc (.cells #[.func (.func 34) #[] #[.pointer (some ⟨w.heap.size + 1, 0, none⟩), .pointer (some ⟨w.heap.size, 0, none⟩), .pointer (some ⟨w.heap.size + 1 + 1, 0, none⟩)]] 56)).alloc (.cells #[.func (.func 35) #[] #[.pointer (some ⟨w1.heap.size, 0, none⟩), .pointer (some ⟨w.heap.size + 1 + 1, 0, none⟩)], .func (.func 37) #[] #[.pointer (some ⟨w1.heap.size, 0, none⟩), .pointer (some ⟨w.heap.size + 1 + 1, 0, none⟩)]] 57)
    have sF := (Row.one_new w1 56 (.func (.func 34) #[] #[.pointer (some ⟨w.heap.size + 1, 0, none⟩), .pointer (some ⟨w.heap.size, 0, none⟩), .pointer (some ⟨w.heap.size + 1 + 1, 0, none⟩)])).alloc (.cells #[.func (.func 35) #[] #[.pointer (some ⟨w1.heap.size, 0, none⟩), .pointer (some ⟨w.heap.size + 1 + 1, 0, none⟩)], .func (.func 37) #[] #[.pointer (some ⟨w1.heap.size, 0, none⟩), .pointer (some ⟨w.heap.size + 1 + 1, 0, none⟩)]] 57)
    have hbW : Below w1.heap.size w1 W := by subst hW; exact ((Below.refl _ _).alloc (Nat.le_refl _) _).alloc (by simp) _
    rw [← hW] at sX sO sT sF
    have hx2 := hx1.below hbW
    have hy2 := hy1.below hbW
    have hq2 := hq1.below hbW
    have hz' := hz
    have S1 : Hid (∀ q, Calls Try.prog 38 #[.int .i64 (m : Int), .func (.func 35) #[] #[.pointer (some ⟨w1.heap.size, 0, none⟩), .pointer (some ⟨w.heap.size + 1 + 1, 0, none⟩)]] (W.drewN q) fun e w' => e = .returned (.int .i64 ((lowOf bs zs pat : Nat) : Int)) ∧ ∃ k, w' = (W.drewN q).drewN k) := fun q =>
      search_any 35 _ m (lowOf bs zs pat) (fun r => decide (0 ≤ cmpL (beg bs zs l r) pat)) (W.drewN q) (enters_of Try.func35 (by kernel_rfl) rfl) (fun W' hW' r hr => by
        have hb' := hW'.below (W.drewN q).heap.size
        exact find2_any (w.heap.size + 1) w.heap.size (w.heap.size + 1 + 1) w1.heap.size A B C c n d m f l bs zs pat r W' ((sO.drewN q).below hb' sO.lt).one ((sX.drewN q).below hb' sX.lt).one ((sT.drewN q).below hb' sT.lt).one ((sF.drewN q).below hb' sF.lt).one ((hx2.drewN q).below hb') ((hy2.drewN q).below hb') ((hq2.drewN q).below hb') hn hl hr (hz' r hr).1 (hz' r hr).2) (by omega) hll hlo.1 hlo.2
    have S2 : Hid (∀ q, Calls Try.prog 38 #[.int .i64 (m : Int), .func (.func 37) #[] #[.pointer (some ⟨w1.heap.size, 0, none⟩), .pointer (some ⟨w.heap.size + 1 + 1, 0, none⟩)]] (W.drewN q) fun e w' => e = .returned (.int .i64 ((highOf bs zs pat : Nat) : Int)) ∧ ∃ k, w' = (W.drewN q).drewN k) := fun q =>
      search_any 37 _ m (highOf bs zs pat) (fun r => decide (0 < cmpL (beg bs zs l r) pat)) (W.drewN q) (enters_of Try.func37 (by kernel_rfl) rfl) (fun W' hW' r hr => by
        have hb' := hW'.below (W.drewN q).heap.size
        exact find3_any (w.heap.size + 1) w.heap.size (w.heap.size + 1 + 1) w1.heap.size A B C c n d m f l bs zs pat r W' ((sO.drewN q).below hb' sO.lt).one ((sX.drewN q).below hb' sX.lt).one ((sT.drewN q).below hb' sT.lt).one ((sF.drewN q).below hb' sF.lt).one ((hx2.drewN q).below hb') ((hy2.drewN q).below hb') ((hq2.drewN q).below hb') hn hl hr (hz' r hr).1 (hz' r hr).2) (by omega) hhi.1 hhi.2.1 hhi.2.2
    have E1 : Hid (findLow bs zs pat = (lowOf bs zs pat : Nat)) := by show _ = _; unfold findLow; rw [if_pos he]
    have E2 : Hid (findHigh bs zs pat = (highOf bs zs pat : Nat)) := by show _ = _; unfold findHigh; rw [if_pos he]
    have He := Lib.hid he
    have hO2 := sO.one
    have hbw : Below w.heap.size w W := hb2.trans (hbW.mono hb2.size)
    have v0 : W.cell? ⟨w1.heap.size + 1, 0, none⟩ = some (.func (.func 35) #[] #[.pointer (some ⟨w1.heap.size, 0, none⟩), .pointer (some ⟨w.heap.size + 1 + 1, 0, none⟩)]) := by rw [hW]; simp
    have v1 : W.cell? ⟨w1.heap.size + 1, 1, none⟩ = some (.func (.func 37) #[] #[.pointer (some ⟨w1.heap.size, 0, none⟩), .pointer (some ⟨w.heap.size + 1 + 1, 0, none⟩)]) := by rw [hW]; simp
    clear he hso hlo hhi hll hv1 hv2 hv3 hv4 hlm hln hlp hz hz' hp sX sO sT sF hx2 hy2 hq2
    have HW := Lib.hid hW; clear hW
    go_upto_region 8 with fail
    rw [← HW.out]
    clear HW
    go_quiet (first
      | (go_at_call 38; with_reducible exact Calls.quiet_of (S1.out _))
      | (go_at_call 38; with_reducible exact Calls.quiet_of (S2.out _)))
    go_wp2_with fail
    go_ret3
    exact ⟨ret_int3 E1.out.symm E2.out.symm He.out.symm, bdrew hbw _⟩
  · have d2 : (checkErr bs zs != 0) = true := by simp [hp]
    have he : Hid (findErr bs zs pat = checkErr bs zs) := by show _ = _; unfold findErr; rw [if_pos hp]
    have h1 : Hid (findLow bs zs pat = 0) := by show _ = _; unfold findLow; rw [if_neg (by rw [he.out]; exact hp)]
    have h2 : Hid (findHigh bs zs pat = 0) := by show _ = _; unfold findHigh; rw [if_neg (by rw [he.out]; exact hp)]
    clear hp
    go_wp2_with fail
    go_ret3
    exact ⟨ret_int3 h1.out.symm h2.out.symm he.out.symm, hb2⟩
end Go.Proofs.Ytkndcbnajkiceaa
