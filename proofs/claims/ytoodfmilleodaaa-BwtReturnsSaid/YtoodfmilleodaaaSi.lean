/- slices.Sorted(slices.Values(bs)) gives the bytes in order. slices.Values, AppendSeq, Collect, Sort, Sorted at bytes. -/
import Derived.Test.YtoodfmilleodaaaSg
import Derived.Test.YtoodfmilleodaaaBh
namespace Go.Proofs.Ytoodfmilleodaaa
open Go.RowKit Go.Proofs Go.Sort Go.Shelf
set_option linter.unusedVariables false
set_option linter.unusedSimpArgs false
attribute [local go_sem] Oper.semAt_some

/-! ### The order of a list of bytes. -/
def srtL (bs : List UInt8) : List UInt8 := bs.mergeSort (fun x y => !ltU y x)
theorem sorted_is {bs : List UInt8} {d' : Array UInt8} (hp : PermIn 0 bs.length bs.toArray d') (hs : SortedIn ltU 0 bs.length d') : d'.toList = srtL bs := by
  have h := sorted_unique_holds ltU_swo (fun x y h1 h2 => ltU_eq x y h1 h2) bs.toArray d' (by simpa using hp) (by simpa using hs)
  simpa [srtL] using h
theorem srtL_length (bs : List UInt8) : (srtL bs).length = bs.length := by simp [srtL]
theorem srtL_perm {xs ys : List UInt8} (h : xs.Perm ys) : srtL xs = srtL ys := by
  obtain ⟨h1, h2⟩ := sort_sorts ltU ltU_swo ys.toArray
  have e1 := sorted_is (by simpa using h1) (by simpa using h2)
  have hl := h.length_eq
  have hsz : (Sort.sort ltU ys.toArray).size = ys.length := by simpa using h1.1
  have hpy := h1.2.2
  rw [show (Sort.sort ltU ys.toArray).extract 0 ys.toArray.size = Sort.sort ltU ys.toArray by
    rw [show ys.toArray.size = (Sort.sort ltU ys.toArray).size by rw [hsz]; simp]; simp] at hpy
  have e2 : (Sort.sort ltU ys.toArray).toList = srtL xs := by
    refine sorted_is ⟨by rw [hsz, ← hl]; simp, fun i hi => ?_, ?_⟩ ?_
    · have hi' : xs.length ≤ i := by omega
      rw [getElem!_neg _ i (by rw [hsz]; omega), getElem!_neg _ i (by simp; omega)]
    · rw [show (Sort.sort ltU ys.toArray).extract 0 xs.length = Sort.sort ltU ys.toArray by rw [hl, ← hsz]; simp]
      simp at hpy ⊢
      exact hpy.trans h.symm
    · rw [hl]; simpa using h2
  rw [← e1, ← e2]
end Go.Proofs.Ytoodfmilleodaaa
namespace Go.Proofs.Ytoodfmilleodaaa
open Go.RowKit Go.Proofs Go.Sort Go.Shelf
set_option linter.unusedVariables false
set_option linter.unusedSimpArgs false
attribute [local go_sem] Oper.semAt_some

theorem values_any (A : Option Addr) (n c : Nat) (w : World) :
    Calls Try.prog 35 #[.slice A n c] w fun e w' => e = .returned (.func (.func 58) #[] #[.pointer (some ⟨w.heap.size, 0, none⟩)]) ∧ w' = w.alloc (.cells #[.slice A n c] 22) := by
  go_enter Try.func35, Try.ntmps35
  go_wp2_with fail
  go_ret
  exact ⟨rfl, rfl⟩

set_option maxHeartbeats 2000000 in
theorem values1_gives (w0 : World) (A : Option Addr) (n c : Nat) (bs : List UInt8) (hx : Bytes w0 A n c bs) (hn : n ≤ 65536) (bx : Nat) (hbx : Boxed w0 bx 22 (.slice A n c)) :
    Gives Try.prog 58 #[.pointer (some ⟨bx, 0, none⟩)] (fun k => #[.int .u8 (gb bs k)]) n (fun X Y => Y = X) (fun X Y => Below w0.heap.size X Y) (fun W => Below w0.heap.size w0 W) := by
  intro l J Jx W hbel hJ hJx hY h0
  have HY := Lib.hid hY; clear hY
  have b0 : W.cell? ⟨bx, 0, none⟩ = some (.slice A n c) := (Boxed.below' hbx hbel (Boxed.lt hbx)).cell
  refine callsIn_of_wp Try.func58 rfl trivial ?_ rfl
  simp only [Try.ntmps58, List.size_toArray, List.length_cons, List.length_nil, Nat.reduceAdd, Nat.reduceSub, Array.replicate_succ, Array.replicate_zero, List.push_toArray, List.append_toArray, List.nil_append, List.cons_append]
  gi_wp2
  gi_loopw [7] (fun i wr => ∃ k : Nat, k ≤ n ∧ i = .int .i64 (k : Int) ∧ J k wr ∧ Below w0.heap.size w0 wr) (fun i _ => n - (intOf i).toNat)
  case atStart => exact ⟨0, by omega, rfl, h0, hbel⟩
  case round =>
    clear b0 hbel h0
    obtain ⟨k, hk, rfl, hJk, hbel⟩ := hrel
    by_cases hlt : k < n
    · obtain ⟨b, off, rfl, -, hcell⟩ := (hx.below hbel).get hlt
      have c1 := hcell k hlt
      clear hcell
      have hy0 := HY.out k wr hlt hJk
      have d0 : decide ((k : Int) < (n : Int)) = true := by simp; omega
      obtain ⟨fn, tmps, assign, body, hy, hR⟩ := hy0
      gi_wp2
      refine hR.mono ?_
      rintro e W3 (⟨rfl, hJ3, hk3⟩ | ⟨rfl, hJx3⟩)
      · clear hR hy
        gi_wp2
        go_roundw
        case rel => exact ⟨k + 1, by omega, by go_num, hJ3, hbel.trans hk3⟩
        case measure => (simp [intOf]) <;> omega
      · clear hR hy
        gi_wp2
        refine bodyPost_ret (results_none rfl _ _ _) rfl ?_
        exact ⟨⟨_, rfl⟩, .inr ⟨k + 1, hlt, hJx3⟩⟩
    · obtain rfl : k = n := by omega
      have d0 : decide ((k : Int) < (k : Int)) = false := by simp
      gi_wp2
      go_end0
      exact ⟨⟨_, rfl⟩, .inl hJk⟩

/-- between two rounds of AppendSeq: the list's box at S. -/
structure InvS (w : World) (bs : List UInt8) (k : Nat) (W : World) : Prop where
  out : ∃ A2 c2, Boxed W w.heap.size 22 (.slice A2 k c2) ∧ Own encB W w.heap.size 5 A2 k c2 (bs.take k)
  below : Below w.heap.size w W
  size : w.heap.size + 1 ≤ W.heap.size
section
variable {w W W' : World} {bs : List UInt8} {k : Nat}
theorem InvS.kept {row : Option Nat} (h : InvS w bs k W) (hg : W.grownBy W' row) (hrow : ∀ r, row = some r → w.heap.size + 1 ≤ r) (hc : ∀ r o, row = some r → W.heap[r]? = some o → o.isCells = false) : InvS w bs k W' := by
  obtain ⟨⟨A2, c2, h3, h4⟩, h5, h6⟩ := h
  have ne : ∀ j, j < w.heap.size + 1 → some j ≠ row := fun j hj e => by have := hrow j e.symm; omega
  refine ⟨⟨A2, c2, h3.kept hg (ne _ (by omega)), h4.keep fun g o hB ho hcell => ?_⟩, h5.grown hg h5.size (fun r e => by have := hrow r e; omega), Nat.le_trans h6 hg.size⟩
  refine (hg.block g (Array.getElem?_eq_some_iff.1 ho).1 (fun e => ?_)).trans ho
  have := hc g o e.symm ho
  rw [hcell] at this
  cases this
theorem boxed_ne {A2 : Option Addr} {c2 B : Nat} {v : Value} {xs : List UInt8} (hob : Boxed W B 22 v) (hown : Own encB W w.heap.size 5 A2 k c2 xs) : some B ≠ (Value.slice A2 k c2).ownBlock := fun e => by
  obtain ⟨_, cur, hc⟩ := Own.type hown e.symm
  unfold Boxed at hob
  rw [hob] at hc
  injection hc with hc
  injection hc with _ hc
  exact absurd hc (by decide)
theorem InvS.step {W6 : World} {A2 A6 : Option Addr} {c2 c6 : Nat} {x : UInt8} (h : InvS w bs k W) (hob : Boxed W w.heap.size 22 (.slice A2 k c2)) (hown : Own encB W w.heap.size 5 A2 k c2 (bs.take k))
    (hx : bs.take k ++ [x] = bs.take (k + 1)) (hg : W.grownBy W6 (Value.slice A2 k c2).ownBlock) (ho : Own encB W6 w.heap.size 5 A6 (k + 1) c6 (bs.take k ++ [x])) :
    KeepsFrom (w.heap.size + 1) W (W6.setCell ⟨w.heap.size, 0, none⟩ (.slice A6 (k + 1) c6)) ∧ Below w.heap.size W (W6.setCell ⟨w.heap.size, 0, none⟩ (.slice A6 (k + 1) c6)) ∧ InvS w bs (k + 1) (W6.setCell ⟨w.heap.size, 0, none⟩ (.slice A6 (k + 1) c6)) := by
  have hsz := h.size
  have hsw : (W6.setCell ⟨w.heap.size, 0, none⟩ (.slice A6 (k + 1) c6)).heap.size = W6.heap.size := by simp [World.setCell]
  have s6 := hg.size
  have keep : ∀ (j : Nat) (o : Obj), W.heap[j]? = some o → j ≠ w.heap.size → (∀ cur, o ≠ .cells cur 5 (0, 0)) → (W6.setCell ⟨w.heap.size, 0, none⟩ (.slice A6 (k + 1) c6)).heap[j]? = some o := fun j o hj hne hno => by
    have hlt := (Array.getElem?_eq_some_iff.1 hj).1
    refine (Below.heap_setCell W6 ⟨w.heap.size, 0, none⟩ _ j hne).trans ((hg.block j (by omega) (fun e => ?_)).trans hj)
    obtain ⟨_, cur, hc⟩ := Own.type hown e.symm
    rw [hj] at hc
    injection hc with hc
    exact hno cur hc
  have hbel : Below w.heap.size W (W6.setCell ⟨w.heap.size, 0, none⟩ (.slice A6 (k + 1) c6)) := by
    refine Below.setCell (p := ⟨w.heap.size, 0, none⟩) ?_ (by show _ ≤ w.heap.size; omega) _
    exact (Below.refl _ W).grown hg (by omega) (fun r e => by have := (Own.type hown e).1; omega)
  refine ⟨⟨by rw [hsw]; omega, fun j o hj ho' hno => keep j o ho' (by omega) (fun cur e => by rw [e] at hno; cases hno)⟩, hbel, ?_, h.below.trans hbel, by rw [hsw]; omega⟩
  · have hb6 : Boxed W6 w.heap.size 22 (.slice A2 k c2) := (hg.block _ (by omega) (boxed_ne hob hown)).trans hob
    refine ⟨A6, c6, hb6.set _, ?_⟩
    rw [← hx]
    refine Own.keepT ho fun g cur hB hgo => (Below.heap_setCell W6 ⟨w.heap.size, 0, none⟩ _ g (fun e => ?_)).trans hgo
    have e' : g = w.heap.size := e
    rw [e'] at hgo
    unfold Boxed at hb6
    rw [hb6] at hgo
    injection hgo with hgo
    injection hgo with _ hgo
    exact absurd hgo (by decide)
end

set_option maxHeartbeats 4000000 in
theorem appendSeq_any (A : Option Addr) (n c bx : Nat) (bs : List UInt8) (w : World) (hx : Bytes w A n c bs) (hn : n ≤ 65536) (hbx : Boxed w bx 22 (.slice A n c)) :
    Calls Try.prog 79 #[.slice none 0 0, .func (.func 58) #[] #[.pointer (some ⟨bx, 0, none⟩)]] w fun e w' => ∃ A2 c2, e = .returned (.slice A2 n c2) ∧ Own encB w' w.heap.size 5 A2 n c2 bs ∧ Below w.heap.size w w' := by
  have Hn := Lib.hid hx.1
  refine calls_of_marks Try.func79 rfl ?_
  simp only [Try.ntmps79, List.size_toArray, List.length_cons, List.length_nil, Nat.reduceAdd, Nat.reduceSub, Array.replicate_succ, Array.replicate_zero, List.push_toArray, List.append_toArray, List.nil_append, List.cons_append]
  obtain ⟨w3, hw3⟩ : ∃ w3, w3 = w.alloc (.cells #[.slice none 0 0] 22) := ⟨_, rfl⟩
  have hs3 : w3.heap.size = w.heap.size + 1 := by rw [hw3, World.size_alloc]
  have hI0 : InvS w bs 0 w3 := by
    refine ⟨⟨none, 0, ?_, Own.nil encB w3 w.heap.size 5⟩, ?_, by omega⟩
    · rw [hw3]; exact Boxed.new w 22 (.slice none 0 0)
    · rw [hw3]; exact (Below.refl _ _).alloc (Nat.le_refl _) _
  have HI0 := Lib.hid hI0
  have Hs3 := Lib.hid hs3
  have Hw3 := Lib.hid hw3
  clear hI0 hs3 hw3
  go_wp2_with fail
  rw [← Hw3.out]
  refine wp_rangeFunc_row1 (G := fun u t => (t.setIfInBounds 7 u).setIfInBounds 5 u) (u := fun k => .int .u8 (gb bs k)) rfl (enters_of Try.func58 (by kernel_rfl) rfl) (values1_gives w A n c bs hx hn bx hbx)
    (fun o1 o2 => (HI0.out.below.alloc HI0.out.below.size _).alloc (by have := HI0.out.below.size; simp; omega) _)
    (fun A B hab => by subst hab; exact ⟨Nat.le_refl _, fun k o _ hk _ => hk⟩)
    (fun h1 h2 => h1.trans h2)
    (fun W l o o' hl hlo ho => (Below.refl _ _).grown (grownBy_putObj' W l o') (by have := (Array.getElem?_eq_some_iff.1 hlo).1; rw [Hs3.out] at hl; omega) (fun k e => by cases e; rw [Hs3.out] at hl; omega))
    (InvS w bs) (fun _ _ _ => False) ?hI (fun _ _ _ _ _ h _ _ => h.elim) (fun k A B h hab => by subst hab; exact h) (fun _ _ _ _ h _ => h.elim) HI0.out ?assign ?body ?done (fun _ _ _ _ _ _ h _ => h.elim)
  case hI => exact fun s W W' row h hg hr => h.kept hg (fun r e => by have := (hr r e).1; rw [Hs3.out] at this; omega) (fun r o e ho => by obtain ⟨o', h1, h2⟩ := (hr r e).2; rw [ho] at h1; injection h1 with h1; subst h1; exact h2)
  case assign =>
    intro l k W K hK
    simp only [List.setIfInBounds_toArray, List.set_cons_succ, List.set_cons_zero] at hK ⊢
    gi_wp2
    exact hK
  case done =>
    intro D W hD hI hdef
    rw [Hs3.out] at hD
    obtain ⟨⟨A2, c2, hob, hown⟩, hbelW, hsW⟩ := hI
    have q1 := hob.cell
    have hown' : Own encB W w.heap.size 5 A2 n c2 bs := by
      have e : bs.take n = bs := by rw [← Hn.out]; exact List.take_length
      rw [e] at hown; exact hown
    clear hown
    go_wp2_with fail
    refine markPost_mark hdef (v := .slice A2 n c2) (fun W => by simp [results, Try.results79, go_sem]) rfl ?_
    refine ⟨A2, c2, rfl, ?_, hbelW.grown (grownBy_putObj' W D _) hbelW.size (fun k e => by cases e; omega)⟩
    exact Own.keepT hown' fun g cur hB ho => (World.putObj_heap_other (fun e => by subst e; rw [hdef] at ho; injection ho with ho; cases ho)).trans ho
  case body =>
    intro l k W hk hl hI
    have HI := Lib.hid hI
    obtain ⟨⟨A2, c2, hob, hown⟩, hbelW, hsW⟩ := hI
    simp only [List.setIfInBounds_toArray, List.set_cons_succ, List.set_cons_zero]
    have q1 := hob.cell
    have q2 := hob.frozen
    have m1 : Hid (k + 1 ≤ maxLen ∧ (k + 1) * 1 ≤ 140737488355328) := ⟨by simp [maxLen]; omega, by omega⟩
    have hnext : Hid (bs.take k ++ [bs.getD k 0] = bs.take (k + 1)) := by
      show _ = _
      rw [List.take_add_one, List.getElem?_eq_getElem (by rw [Hn.out]; exact hk), List.getD_eq_getElem?_getD, List.getElem?_eq_getElem (by rw [Hn.out]; exact hk)]
      rfl
    have hbv : Hid (encB (bs.getD k 0) = .int .u8 (gb bs k)) := rfl
    have hsz : w.heap.size ≤ W.heap.size := by omega
    have HO := Lib.hid hown
    have HB := Lib.hid hob
    have fin : Hid (∀ (W6 : World) (A6 : Option Addr) (c6 : Nat), W.grownBy W6 (Value.slice A2 k c2).ownBlock → Own encB W6 w.heap.size 5 A6 (k + 1) c6 (bs.take k ++ [bs.getD k 0]) → W6.cell? ⟨w.heap.size, 0, none⟩ = some (.slice A2 k c2) ∧ W6.frozen? ⟨w.heap.size, 0, none⟩ = false ∧
        (KeepsFrom (w.heap.size + 1) W (W6.setCell ⟨w.heap.size, 0, none⟩ (.slice A6 (k + 1) c6)) ∧ Below w.heap.size W (W6.setCell ⟨w.heap.size, 0, none⟩ (.slice A6 (k + 1) c6)) ∧ InvS w bs (k + 1) (W6.setCell ⟨w.heap.size, 0, none⟩ (.slice A6 (k + 1) c6)))) := fun W6 A6 c6 hg ho => by
      have t6 : Boxed W6 w.heap.size 22 (.slice A2 k c2) := HB.out.kept hg (boxed_ne HB.out HO.out)
      exact ⟨t6.cell, t6.frozen, HI.out.step HB.out HO.out hnext.out hg ho⟩
    clear hob hown HI
    gi_wp2_with (gi_at_builtin; refine wpListIn_pushg (enc := encB) rfl (.tmp 8) (.tmp 10) rfl uB infoB encB_one rfl rfl HO.out hsz (bs.getD k 0) _ hbv.out rfl m1.out.1 m1.out.2 ?_; intro A6 c6 W6 ho6 hk6; obtain ⟨z1, z2, z3⟩ := fin.out W6 A6 c6 hk6 ho6)
    rw [Hs3.out]
    exact z3
end Go.Proofs.Ytoodfmilleodaaa
