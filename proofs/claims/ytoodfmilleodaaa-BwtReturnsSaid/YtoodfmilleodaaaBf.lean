/- walk of layer 33 gives the rows ahead of the row without a byte. -/
import Derived.Test.YtoodfmilleodaaaBp
namespace Go.Proofs.Ytoodfmilleodaaa
open Go.RowKit Go.Proofs Go.Shelf
set_option linter.unusedVariables false
attribute [local go_sem] Oper.semAt_some

/-- what a round of the walk keeps: the box, what is below n0, and all rows of ints. -/
def walkKp (n0 bx : Nat) (X Y : World) : Prop := Y.heap[bx]? = X.heap[bx]? ∧ Below n0 X Y ∧ ∀ (g : Nat) (cs : Array Value) (fr : Nat × Nat), X.heap[g]? = some (.cells cs 3 fr) → Y.heap[g]? = X.heap[g]?
/-- what the walk itself does: it makes memory. -/
def growAb (X Y : World) : Prop := Below X.heap.size X Y
def walkRow (p : Nat) (bs : List UInt8) (k : Nat) : Array Value := #[.int .i64 (itR p bs k : Int)]

/-- the number of a row of the walk. -/
def itIx (p : Nat) (bs : List UInt8) (r : Nat) : Nat := firstN (fun k => decide (itR p bs k ≠ r)) (bs.length + 1) 0
theorem itIx_at {p : Nat} {bs : List UInt8} (hp : p ≤ bs.length) {k : Nat} (hk : k ≤ wl p bs) : itIx p bs (itR p bs k) = k := by
  have hs := firstN_spec (fun j => decide (itR p bs j ≠ itR p bs k)) (bs.length + 1) 0
  have hw := wl_le hp
  have hle : itIx p bs (itR p bs k) ≤ k := by
    rcases Nat.lt_or_ge k (itIx p bs (itR p bs k)) with h | h
    · have := hs.1 k (Nat.zero_le _) h
      simp at this
    · exact h
  have he := hs.2 (by unfold itIx at hle; omega)
  have he' : itR p bs (itIx p bs (itR p bs k)) = itR p bs k := by have := of_decide_eq_false he; exact Decidable.not_not.1 this
  clear he
  rcases Nat.lt_or_ge (itIx p bs (itR p bs k)) k with h | h
  · exact absurd he' (itR_fresh hp (m := wl p bs) (fun k hk => wl_ne hk) h hk)
  · omega

theorem walk_any (A : Option Addr) (n c p : Nat) (w : World) :
    Calls Try.prog 59 #[rowsV A n c p] w fun e w' => e = .returned (.func (.func 82) #[] #[.pointer (some ⟨w.heap.size, 0, none⟩)]) ∧ w' = w.alloc (.cells #[.slice A n c, .int .i64 (p : Int)] 66) := by
  unfold rowsV
  go_enter Try.func59, Try.ntmps59
  go_wp2_with fail
  go_ret
  exact ⟨rfl, rfl⟩

set_option maxHeartbeats 2000000 in
theorem walk1_gives (w0 : World) (A : Option Addr) (n c p : Nat) (bs : List UInt8) (hx : Bytes w0 A n c bs) (hn : n ≤ 65536) (hp : p ≤ n) (bx : Nat) (hbx : w0.heap.size ≤ bx) :
    Gives Try.prog 82 #[.pointer (some ⟨bx, 0, none⟩)] (walkRow p bs) (wl p bs) growAb (walkKp w0.heap.size bx) (fun W => BoxR W bx A n c p ∧ Below w0.heap.size w0 W) := by
  intro l J Jx W ⟨hbox, hbel⟩ hJ hJx hY h0
  have HY := Lib.hid hY; clear hY
  have Hn := Lib.hid hx.1
  have hp' : Hid (p ≤ bs.length) := by show _ ≤ _; rw [Hn.out]; exact hp
  have b0 : W.cell? ⟨bx, 0, none⟩ = some (.slice A n c) := hbox.cell (j := 0) undef (by simp)
  have b1 : W.cell? ⟨bx, 1, none⟩ = some (.int .i64 (p : Int)) := hbox.cell (j := 1) undef (by simp)
  have hcal := links_any A n c p bs W (hx.below hbel) hn hp
  unfold rowsV at hcal
  have Hcal := Lib.hid hcal; clear hcal
  refine callsIn_of_wp Try.func82 rfl trivial ?_ rfl
  simp only [Try.ntmps82, List.size_toArray, List.length_cons, List.length_nil, Nat.reduceAdd, Nat.reduceSub, Array.replicate_succ, Array.replicate_zero, List.push_toArray, List.append_toArray, List.nil_append, List.cons_append]
  gi_wp2_with (refine ⟨trivial, ?_⟩; gi_at_call 40; refine (callsIn_wide.2 Hcal.out).mono ?_; rintro e w1 ⟨g, rfl, hrow, hb1⟩)
  have hJ1 : J 0 w1 := hJ _ _ _ h0 hb1
  have hbox1 : BoxR w1 bx A n c p := hbox.below hb1 hbox.lt
  have hbel1 : Below w0.heap.size w0 w1 := hbel.trans (hb1.mono hbel.size)
  clear b0 b1 hbox hbel h0 hb1 Hcal
  gi_loopw [4] (fun i wr => ∃ k : Nat, k ≤ wl p bs ∧ i = .int .i64 (itR p bs k : Int) ∧ J k wr ∧ BoxR wr bx A n c p ∧ Row (Value.int .i64) wr g 3 (lkAll p bs) ∧ Below w0.heap.size w0 wr ∧ Hid (k ≤ n)) (fun i _ => wl p bs + 1 - itIx p bs (intOf i).toNat)
  case atStart => exact ⟨0, by omega, rfl, hJ1, hbox1, hrow, hbel1, Nat.zero_le _⟩
  case round =>
    clear hJ1 hbox1 hrow hbel1
    obtain ⟨k, hk, rfl, hJk, hbox, hrow, hbel, hkn⟩ := hrel
    have b1 : wr.cell? ⟨bx, 1, none⟩ = some (.int .i64 (p : Int)) := hbox.cell (j := 1) undef (by simp)
    by_cases hlt : k < wl p bs
    · have hne := wl_ne hlt
      have hr : itR p bs k ≤ n := by rw [← Hn.out]; exact itR_le hp'.out k
      have c1 := hrow.cell (j := itR p bs k) 0 (by unfold lkAll; rw [lkTo_length, Hn.out]; omega)
      have c2 : (lkAll p bs).getD (itR p bs k) 0 = (itR p bs (k + 1) : Int) := by show gi _ _ = _; rw [gi_lkAll hp'.out (by rw [Hn.out]; exact hr)]; rfl
      rw [c2] at c1
      clear c2
      have i1 := itIx_at hp'.out (Nat.le_of_lt hlt)
      have i2 := itIx_at hp'.out hlt
      have HI := Lib.hid (And.intro i1 i2); clear i1 i2
      have hy0 := HY.out k wr hlt hJk
      unfold walkRow at hy0
      obtain ⟨r', hr'⟩ : ∃ r', r' = itR p bs (k + 1) := ⟨_, rfl⟩
      obtain ⟨r, hr0⟩ : ∃ r, r = itR p bs k := ⟨_, rfl⟩
      rw [← hr'] at c1 HI
      rw [← hr0] at c1 hy0 hr hne HI ⊢
      have Hr' := Lib.hid hr'; clear hr'
      clear hr0
      have d1 : ((r : Int) != (p : Int)) = true := by simp; omega
      have d2 : (r != p) = true := by simp; exact hne
      obtain ⟨fn, tmps, assign, body, hy, hR⟩ := hy0
      gi_wp2
      refine hR.mono ?_
      rintro e W3 (⟨rfl, hJ3, hk3⟩ | ⟨rfl, hJx3⟩)
      · have hrow3 : Row (Value.int .i64) W3 g 3 (lkAll p bs) := (hk3.2.2 _ _ _ hrow).trans hrow
        have c3 := hrow3.cell (j := r) 0 (by unfold lkAll; rw [lkTo_length, Hn.out]; omega)
        have c4 : (lkAll p bs).getD r 0 = (r' : Int) := by
          have := hrow.cell (j := r) 0 (by unfold lkAll; rw [lkTo_length, Hn.out]; omega)
          rw [c1] at this
          injection this with this
          injection this with _ this
          exact this.symm
        rw [c4] at c3
        clear hR hy c1 c4
        gi_wp2
        go_roundw
        case rel => exact ⟨k + 1, hlt, by rw [Hr'.out], hJ3, hk3.1.trans hbox, hrow3, hbel.trans hk3.2.1, by have := wl_le hp'.out; have := Hn.out; show _ ≤ _; omega⟩
        case measure => simp only [intOf, Int.toNat_natCast]; rw [HI.out.1, HI.out.2]; omega
      · clear hR hy
        gi_wp2
        go_end0
        exact ⟨⟨_, rfl⟩, .inr ⟨k + 1, hlt, hJx3⟩⟩
    · obtain rfl : k = wl p bs := by omega
      rw [wl_at hp'.out]
      gi_wp2
      refine ⟨fun _ h => (nomatch h), ?_⟩
      gi_wp2
      first | go_end0 | trace_state
      exact ⟨⟨_, rfl⟩, .inl hJk⟩
end Go.Proofs.Ytoodfmilleodaaa
