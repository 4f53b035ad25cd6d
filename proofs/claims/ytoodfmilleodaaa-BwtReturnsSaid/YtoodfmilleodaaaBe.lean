/- links of layer 33. -/
import Derived.Test.YtoodfmilleodaaaBd
import Derived.Test.YtoodfmilleodaaaBk
namespace Go.Proofs.Ytoodfmilleodaaa
open Go.RowKit Go.Proofs Go.Shelf
set_option linter.unusedVariables false
attribute [local go_sem] Oper.semAt_some

/-- the next row for byte d, k bytes having come. -/
def nxB (bs : List UInt8) (k d : Nat) : Int := stB bs d + cntTo bs k d
def nxRow (bs : List UInt8) (k : Nat) : List Int := (List.range 256).map (nxB bs k)
/-- the link of byte k. -/
def lkB (bs : List UInt8) (k : Nat) : Int := nxB bs k (bn bs k)
/-- the byte of row r. -/
def rowI (p r : Nat) : Nat := if r < p then r else r - 1
def lkR (p : Nat) (bs : List UInt8) (k r : Nat) : Int := if r = p then 0 else if rowI p r < k then lkB bs (rowI p r) else 0
def lkTo (p : Nat) (bs : List UInt8) (k : Nat) : List Int := (List.range (bs.length + 1)).map (lkR p bs k)
def lkAll (p : Nat) (bs : List UInt8) : List Int := lkTo p bs bs.length
theorem nxRow_length (bs : List UInt8) (k : Nat) : (nxRow bs k).length = 256 := by simp [nxRow]
theorem lkTo_length (p : Nat) (bs : List UInt8) (k : Nat) : (lkTo p bs k).length = bs.length + 1 := by simp [lkTo]
theorem gi_nxRow {bs : List UInt8} {k d : Nat} (hd : d < 256) : gi (nxRow bs k) d = nxB bs k d := by simp [gi, nxRow, List.getD, hd]
theorem gi_lkTo {p : Nat} {bs : List UInt8} {k r : Nat} (hr : r ≤ bs.length) : gi (lkTo p bs k) r = lkR p bs k r := by
  have : r < bs.length + 1 := by omega
  simp [gi, lkTo, List.getD, this]
theorem nxRow_zero (bs : List UInt8) : nxRow bs 0 = stAll bs := by
  unfold nxRow stAll
  apply List.map_congr_left
  intro d _
  unfold nxB cntTo
  simp
theorem nxRow_next {bs : List UInt8} {k : Nat} (hk : k < bs.length) : (nxRow bs k).set (bn bs k) (lkB bs k + 1) = nxRow bs (k + 1) := by
  apply List.ext_getElem
  · simp [nxRow]
  intro i h1 h2
  rw [List.getElem_set]
  simp only [nxRow, List.getElem_map, List.getElem_range, lkB, nxB]
  rw [cntTo_next hk]
  by_cases e : bn bs k = i
  · subst e; simp; omega
  · simp [e]
theorem lkTo_zero (p : Nat) (bs : List UInt8) : lkTo p bs 0 = List.replicate (bs.length + 1) 0 := by
  apply List.ext_getElem
  · simp [lkTo]
  intro i h1 h2
  rw [List.getElem_replicate]
  simp [lkTo, lkR]
theorem rowI_rowN (p k : Nat) : rowI p (rowN p k) = k := by
  unfold rowI rowN
  by_cases h : k < p
  · rw [if_pos h, if_pos h]
  · rw [if_neg h, if_neg (by omega)]; omega
theorem rowN_ne (p k : Nat) : rowN p k ≠ p := by unfold rowN; split <;> omega
theorem rowN_rowI {p r : Nat} (h : r ≠ p) : rowN p (rowI p r) = r := by
  unfold rowI rowN
  by_cases h1 : r < p
  · rw [if_pos h1, if_pos h1]
  · rw [if_neg h1, if_neg (by omega)]; omega
theorem rowN_le {p k n : Nat} (hk : k < n) : rowN p k ≤ n := by unfold rowN; split <;> omega
theorem lkTo_next {p : Nat} {bs : List UInt8} {k : Nat} (hk : k < bs.length) : (lkTo p bs k).set (rowN p k) (lkB bs k) = lkTo p bs (k + 1) := by
  apply List.ext_getElem
  · simp [lkTo]
  intro i h1 h2
  rw [List.getElem_set]
  simp only [lkTo, List.getElem_map, List.getElem_range]
  by_cases e : rowN p k = i
  · subst e
    rw [if_pos rfl]
    unfold lkR
    rw [if_neg (rowN_ne p k), rowI_rowN, if_pos (by omega)]
  · rw [if_neg e]
    unfold lkR
    by_cases hp : i = p
    · rw [if_pos hp, if_pos hp]
    · rw [if_neg hp, if_neg hp]
      by_cases hl : rowI p i < k
      · rw [if_pos hl, if_pos (by omega)]
      · have : rowI p i ≠ k := fun h => e (by rw [← h, rowN_rowI hp])
        rw [if_neg hl, if_neg (by omega)]
theorem lkB_le (bs : List UInt8) (hn : bs.length ≤ 65536) (k : Nat) (hk : k ≤ bs.length) : 1 ≤ lkB bs k ∧ lkB bs k ≤ 20000000 := by
  unfold lkB nxB
  have h1 := stB_le bs hn (bn bs k)
  have h2 := cntTo_le bs k (bn bs k)
  have h3 := bn_lt bs k
  omega

/-- between two rounds: the array at S, the row behind it, the box of the row. -/
structure LinkI (w : World) (S p : Nat) (bs : List UInt8) (k : Nat) (W : World) : Prop where
  next : Row (Value.int .i64) W S 73 (nxRow bs k)
  out : Row (Value.int .i64) W (S + 1) 3 (lkTo p bs k)
  box : Boxed W (S + 2) 31 (.slice (some ⟨S + 1, 0, none⟩) (bs.length + 1) (bs.length + 1))
  below : Below w.heap.size w W
  size : S + 4 ≤ W.heap.size

theorem LinkI.kept {w W W' : World} {S p : Nat} {bs : List UInt8} {k : Nat} {row : Option Nat} (hS : w.heap.size < S) (h : LinkI w S p bs k W) (hg : W.grownBy W' row) (hrow : ∀ r, row = some r → S + 4 ≤ r) : LinkI w S p bs k W' := by
  have ne : ∀ j, j < S + 4 → some j ≠ row := fun j hj e => by have := hrow j e.symm; omega
  exact ⟨h.next.grown hg (ne _ (by omega)), h.out.grown hg (ne _ (by omega)), h.box.kept hg (ne _ (by omega)), h.below.grown hg h.below.size (fun r e => by have := hrow r e; omega), Nat.le_trans h.size hg.size⟩
theorem LinkI.step {w W : World} {S p : Nat} {bs : List UInt8} {k : Nat} (hS : w.heap.size < S) (hk : k < bs.length) (h : LinkI w S p bs k W) (q : Nat) :
    KeepsFrom (S + 4) W (((W.drewN q).setCell ⟨S + 1, rowN p k, none⟩ (.int .i64 (lkB bs k))).setCell ⟨S, bn bs k, none⟩ (.int .i64 (lkB bs k + 1))) ∧ boxKp w.heap.size (S + 3) W (((W.drewN q).setCell ⟨S + 1, rowN p k, none⟩ (.int .i64 (lkB bs k))).setCell ⟨S, bn bs k, none⟩ (.int .i64 (lkB bs k + 1))) ∧ LinkI w S p bs (k + 1) (((W.drewN q).setCell ⟨S + 1, rowN p k, none⟩ (.int .i64 (lkB bs k))).setCell ⟨S, bn bs k, none⟩ (.int .i64 (lkB bs k + 1))) := by
  have hb : Below w.heap.size W (((W.drewN q).setCell ⟨S + 1, rowN p k, none⟩ (.int .i64 (lkB bs k))).setCell ⟨S, bn bs k, none⟩ (.int .i64 (lkB bs k + 1))) :=
    (((Drawn.drewN W q).below _).setCell (p := ⟨S + 1, rowN p k, none⟩) (by show _ ≤ S + 1; omega) _).setCell (p := ⟨S, bn bs k, none⟩) (by show _ ≤ S; omega) _
  have oth : ∀ j, j ≠ S → j ≠ S + 1 → (((W.drewN q).setCell ⟨S + 1, rowN p k, none⟩ (.int .i64 (lkB bs k))).setCell ⟨S, bn bs k, none⟩ (.int .i64 (lkB bs k + 1))).heap[j]? = W.heap[j]? := fun j h1 h2 =>
    (Below.heap_setCell _ ⟨S, bn bs k, none⟩ _ j h1).trans (Below.heap_setCell _ ⟨S + 1, rowN p k, none⟩ _ j h2)
  have r1 := ((h.next.drewN q).far (p := ⟨S + 1, rowN p k, none⟩) (by show S ≠ S + 1; omega) (.int .i64 (lkB bs k))).set (bn bs k) (lkB bs k + 1)
  have r2 := ((h.out.drewN q).set (rowN p k) (lkB bs k)).far (p := ⟨S, bn bs k, none⟩) (by show S + 1 ≠ S; omega) (.int .i64 (lkB bs k + 1))
  rw [nxRow_next hk] at r1
  rw [lkTo_next hk] at r2
  have hsz : (((W.drewN q).setCell ⟨S + 1, rowN p k, none⟩ (.int .i64 (lkB bs k))).setCell ⟨S, bn bs k, none⟩ (.int .i64 (lkB bs k + 1))).heap.size = W.heap.size := by simp [World.setCell, World.drewN]
  refine ⟨⟨by rw [hsz]; exact Nat.le_refl _, fun j o hj ho _ => (oth j (by omega) (by omega)).trans ho⟩, ⟨oth _ (by omega) (by omega), hb⟩, r1, r2, (oth _ (by omega) (by omega)).trans h.box, h.below.trans hb, by rw [hsz]; exact h.size⟩
theorem links_start {w w2 w3 : World} {A : Option Addr} {n c p S : Nat} {bs : List UInt8} (hs2 : w2.heap.size = S + 1) (hb2 : Below w.heap.size w w2) (r0 : Row (Value.int .i64) w2 S 73 (nxRow bs 0)) (hn : bs.length = n)
    (hw3 : w3 = ((w2.alloc (rowObj (Value.int .i64) 3 (List.replicate (n + 1) 0))).alloc (.cells #[.slice (some ⟨S + 1, 0, none⟩) (n + 1) (n + 1)] 31)).alloc (.cells #[.slice A n c, .int .i64 (p : Int)] 66)) :
    LinkI w S p bs 0 w3 ∧ BoxR w3 (S + 3) A n c p ∧ w3.heap.size = S + 4 := by
  have hbs := hb2.size
  have s3 : (w2.alloc (rowObj (Value.int .i64) 3 (List.replicate (n + 1) 0))).heap.size = S + 2 := by rw [World.size_alloc, hs2]
  have s4 : ((w2.alloc (rowObj (Value.int .i64) 3 (List.replicate (n + 1) 0))).alloc (.cells #[.slice (some ⟨S + 1, 0, none⟩) (n + 1) (n + 1)] 31)).heap.size = S + 3 := by rw [World.size_alloc, s3]
  have t1 := Row.new (enc := Value.int .i64) w2 3 (List.replicate (n + 1) 0)
  rw [hs2] at t1
  have t2 := Boxed.new (w2.alloc (rowObj (Value.int .i64) 3 (List.replicate (n + 1) 0))) 31 (.slice (some ⟨S + 1, 0, none⟩) (n + 1) (n + 1))
  rw [s3] at t2
  have t3 := Row.new (enc := id) ((w2.alloc (rowObj (Value.int .i64) 3 (List.replicate (n + 1) 0))).alloc (.cells #[.slice (some ⟨S + 1, 0, none⟩) (n + 1) (n + 1)] 31)) 66 [.slice A n c, .int .i64 (p : Int)]
  rw [s4] at t3
  subst hw3
  refine ⟨⟨((r0.alloc _).alloc _).alloc _, ?_, ?_, ?_, ?_⟩, t3, by rw [World.size_alloc, s4]⟩
  · rw [lkTo_zero, hn]; exact (t1.alloc _).alloc _
  · rw [hn]; exact t2.alloc _
  · exact ((hb2.alloc hbs _).alloc (by rw [World.size_alloc]; omega) _).alloc (by rw [s4]; omega) _
  · rw [World.size_alloc, s4]; omega

theorem links_mid {w1 w2 : World} {o : Obj} {g : Nat} {v v' : Value} (hw : w2 = w1.alloc o) (hg : g + 1 ≤ w1.heap.size) (h0 : w1.cell? ⟨g, 0, none⟩ = some v) (h1 : w1.cell? ⟨g, 1, none⟩ = some v') :
    w2.cell? ⟨g, 0, none⟩ = some v ∧ w2.cell? ⟨g, 1, none⟩ = some v' ∧ g < w2.heap.size := by
  subst hw
  have hb := (Below.refl w1.heap.size w1).alloc (Nat.le_refl _) o
  exact ⟨(hb.cell (p := ⟨g, 0, none⟩) (by show g < _; omega)).trans h0, (hb.cell (p := ⟨g, 1, none⟩) (by show g < _; omega)).trans h1, by rw [World.size_alloc]; omega⟩

set_option maxHeartbeats 2000000 in
theorem links_any (A : Option Addr) (n c p : Nat) (bs : List UInt8) (w : World) (hx : Bytes w A n c bs) (hn : n ≤ 65536) (hp : p ≤ n) :
    Calls Try.prog 40 #[rowsV A n c p] w fun e w' => ∃ g, e = .returned (.slice (some ⟨g, 0, none⟩) (n + 1) (n + 1)) ∧ Row (Value.int .i64) w' g 3 (lkAll p bs) ∧ Below w.heap.size w w' := by
  unfold rowsV
  have Hn := Lib.hid hx.1
  have z1 := zA
  have hmk := run_make_row (P := Try.prog) (enc := Value.int .i64) uI infoI rfl ((n : Int) + 1) (by omega) (by omega) (by omega)
  have hcal := starts_any A n c p bs _ (hx.alloc (.cells #[.slice A n c, .int .i64 (p : Int)] 66)) hn
  unfold rowsV at hcal
  have Hcal := Lib.hid hcal; clear hcal
  refine calls_of_marks Try.func40 rfl ?_
  simp only [Try.ntmps40, List.size_toArray, List.length_cons, List.length_nil, Nat.reduceAdd, Nat.reduceSub, Array.replicate_succ, Array.replicate_zero, List.push_toArray, List.append_toArray, List.nil_append, List.cons_append]
  go_wp2_with fail
  refine Hcal.out.mono ?_
  rintro e w1 ⟨rfl, hb1⟩
  rw [World.size_alloc] at hb1
  have hs1 := hb1.size
  rw [World.size_alloc] at hs1
  have q0 : w1.cell? ⟨w.heap.size, 0, none⟩ = some (.slice A n c) := (hb1.cell (p := ⟨w.heap.size, 0, none⟩) (Nat.lt_succ_self _)).trans (by simp)
  have q1 : w1.cell? ⟨w.heap.size, 1, none⟩ = some (.int .i64 (p : Int)) := (hb1.cell (p := ⟨w.heap.size, 1, none⟩) (Nat.lt_succ_self _)).trans (by simp)
  have r2 := zeroRow (heap_alloc_new w1 (.cells zeroC 73))
  have hsz2 : (Try.prog.info? 73).map (·.size) = some ((stAll bs).map (Value.int .i64)).toArray.size := by rw [iA]; simp [stAll]
  have hold : ((List.replicate 256 (0 : Int)).map (Value.int .i64)).toArray.size = ((stAll bs).map (Value.int .i64)).toArray.size := by rw [List.size_toArray, List.size_toArray, List.length_map, List.length_map, List.length_replicate]; simp [stAll]
  have hall : ((stAll bs).map (Value.int .i64)).toArray.all (·.oneCell') = true := by
    rw [Array.all_eq_true_iff_forall_mem]
    intro v hv
    rw [List.mem_toArray] at hv
    obtain ⟨z, _, rfl⟩ := List.mem_map.1 hv
    rfl
  have Hall := Lib.hid (And.intro hsz2 (And.intro hold hall)); clear hsz2 hold hall
  have Hr2 := Lib.hid r2; clear r2
  go_wp2_with (refine wpList_store_row rfl 73 (.tmp 3) (.tmp 8) rfl _ ((stAll bs).map (Value.int .i64)).toArray rfl rfl _ _ Hr2.out Hall.out.1 Hall.out.2.1 Hall.out.2.2 ?_; rw [World.setRow_alloc_new]; obtain ⟨w2, hw2⟩ : ∃ w2, w2 = w1.alloc (.cells ((stAll bs).map (Value.int .i64)).toArray 73) := ⟨_, rfl⟩; have Hw2 := Lib.hid hw2; rw [← hw2]; clear hw2; obtain ⟨v0, v1, v2⟩ := links_mid Hw2.out hs1 q0 q1; clear q0 q1)
  refine (all_any _ _ _ _ _).mono ?_
  rintro e w3 ⟨rfl, hw3⟩
  have Hw3 := Lib.hid hw3; clear hw3
  go_wp2_with fail
  clear hmk z1 v0 v1 Hr2 Hall
  have hs2 : w2.heap.size = w1.heap.size + 1 := by rw [Hw2.out, World.size_alloc]
  have r0 : Row (Value.int .i64) w2 w1.heap.size 73 (nxRow bs 0) := by rw [Hw2.out, nxRow_zero]; exact Row.new w1 _ _
  have hb2 : Below w.heap.size w w2 := by rw [Hw2.out]; exact (((Below.refl _ _).alloc (Nat.le_refl _) _).trans (hb1.mono (by omega))).alloc (by omega) _
  rw [hs2] at Hw3 ⊢
  obtain ⟨S, hS⟩ : ∃ S, S = w1.heap.size := ⟨_, rfl⟩
  rw [← hS] at Hw3 r0 hs2 hs1 ⊢
  clear hb1 Hcal Hw2
  obtain ⟨hI0, hbx3, hs3⟩ := links_start hs2 hb2 r0 Hn.out Hw3.out
  have Hs3 := Lib.hid hs3; clear hs3
  have hw0 : w.heap.size < S := by omega
  clear Hw3 v2 hb2 r0 hs1 hS hs2
  refine wp_rangeFunc_row2 (G := fun u v t => (((t.setIfInBounds 16 u).setIfInBounds 17 v).setIfInBounds 5 u).setIfInBounds 6 v) (u := fun k => .int .i64 (rowN p k : Int)) (v := fun k => .int .u8 (gb bs k)) rfl (enters_of Try.func85 (by kernel_rfl) rfl) (all1_gives w A n c p bs hx (by omega) hp (S + 3) (by omega))
    (fun o1 o2 => ⟨(Row.alloc (Row.alloc hbx3 _) _), (hI0.below.alloc hI0.below.size _).alloc (by have := hI0.below.size; simp; omega) _⟩)
    (fun A B hab => by rw [hab]; exact KeepsFrom.refl _ _)
    (fun h1 h2 => ⟨h2.1.trans h1.1, h1.2.trans h2.2⟩)
    (fun W l o o' hl hlo ho => ⟨World.putObj_heap_other (by rw [Hs3.out] at hl; omega), ((Below.refl _ _).grown (grownBy_putObj' W l o') (by have := (Array.getElem?_eq_some_iff.1 hlo).1; rw [Hs3.out] at hl; omega) (fun k e => by cases e; rw [Hs3.out] at hl; omega))⟩)
    (LinkI w S p bs) (fun _ _ _ => False) ?hI (fun _ _ _ _ _ h _ _ => h.elim) (fun k A B h hab => by rw [hab]; exact h) (fun _ _ _ _ h _ => h.elim) hI0 ?assign ?body ?done (fun _ _ _ _ _ _ h _ => h.elim)
  case hI => exact fun s W W' row h hg hr => h.kept hw0 hg (fun r e => by have := (hr r e).1; rw [Hs3.out] at this; omega)
  case assign =>
    intro l k W K hK
    simp only [List.setIfInBounds_toArray, List.set_cons_succ, List.set_cons_zero] at hK ⊢
    gi_wp2
    exact hK
  case done =>
    intro D W hD hI hdef
    obtain ⟨-, hout, hbox, hbelW, hsW⟩ := hI
    have q1 := hbox.cell
    rw [Hn.out] at q1
    go_wp2_with fail
    refine markPost_mark hdef (v := .slice (some ⟨S + 1, 0, none⟩) (n + 1) (n + 1)) (fun W => by simp [results, Try.results40, go_sem]) rfl ?_
    rw [Hs3.out] at hD
    refine ⟨_, rfl, ?_, hbelW.grown (grownBy_putObj' W D _) hbelW.size (fun k e => by cases e; omega)⟩
    have := hout.grown (grownBy_putObj' W D (.deferred none)) (fun e => by injection e with e; omega)
    unfold lkAll
    rw [Hn.out]
    exact this
  case body =>
    intro l k W hk hl hI
    have HI := Lib.hid hI
    obtain ⟨hnx, hout, hbox, hbelW, hsW⟩ := hI
    simp only [List.setIfInBounds_toArray, List.set_cons_succ, List.set_cons_zero]
    have hm := bn_lt bs k
    rw [gb_bn]
    obtain ⟨m, hme⟩ : ∃ m, m = bn bs k := ⟨_, rfl⟩
    have c1 : W.cell? ⟨S, m, none⟩ = some (.int .i64 (lkB bs k)) := by
      have := hnx.cell (j := m) 0 (by rw [nxRow_length, hme]; exact hm)
      rw [this]; show some (Value.int .i64 (gi _ _)) = _; rw [hme, gi_nxRow hm]; rfl
    have f1 := hnx.frozen m
    have hrl : rowN p k ≤ n := rowN_le hk
    obtain ⟨r, hr⟩ : ∃ r, r = rowN p k := ⟨_, rfl⟩
    have b1 := hbox.cell
    rw [Hn.out] at b1
    have c2 := hout.cell (j := r) 0 (by rw [lkTo_length, Hn.out, hr]; omega)
    have f2 := hout.frozen r
    have hlk := lkB_le bs (by rw [Hn.out]; exact hn) k (by rw [Hn.out]; omega)
    have hstep : Hid (∀ q, KeepsFrom (S + 4) W (((W.drewN q).setCell ⟨S + 1, r, none⟩ (.int .i64 (lkB bs k))).setCell ⟨S, m, none⟩ (.int .i64 (lkB bs k + 1))) ∧ boxKp w.heap.size (S + 3) W (((W.drewN q).setCell ⟨S + 1, r, none⟩ (.int .i64 (lkB bs k))).setCell ⟨S, m, none⟩ (.int .i64 (lkB bs k + 1))) ∧ LinkI w S p bs (k + 1) (((W.drewN q).setCell ⟨S + 1, r, none⟩ (.int .i64 (lkB bs k))).setCell ⟨S, m, none⟩ (.int .i64 (lkB bs k + 1)))) := fun q => by
      rw [hr, hme]
      exact HI.out.step hw0 (by rw [Hn.out]; exact hk) q
    rw [← hme] at hm ⊢
    rw [← hr] at hrl ⊢
    clear hnx hout hbox hme hr HI
    obtain ⟨x, hx'⟩ : ∃ x, x = lkB bs k := ⟨_, rfl⟩
    rw [← hx'] at c1 hlk hstep
    clear hx'
    gi_wp2
    refine wpIn_round_tail 6 (by kernel_rfl) (by kernel_rfl) (by kernel_rfl) ?_
    simp only [List.take_succ_cons, List.take_zero, List.drop_succ_cons, List.drop_zero]
    repeat (go_big_quiet_step (fail))
    refine wpQuiet_nil ?_
    intro _ hw'
    obtain ⟨nq, hw''⟩ := hw'
    subst hw''
    go_wp2_with fail
    refine ⟨rfl, ?_⟩
    gi_wp2
    rw [Hs3.out]
    exact hstep.out nq
end Go.Proofs.Ytoodfmilleodaaa
