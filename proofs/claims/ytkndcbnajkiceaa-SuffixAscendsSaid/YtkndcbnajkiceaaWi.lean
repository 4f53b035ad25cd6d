/- Contracts: slices.Repeat of one int, slices.Equal, suffix.Ranks, suffix.Check. -/
import Derived.Test.YtkndcbnajkiceaaWs
import Derived.Laws.CopyOwn
import Derived.Deep.RegionLaw
namespace Go.Proofs.Ytkndcbnajkiceaa
open Go.RowKit Go.Proofs
set_option linter.unusedVariables false

theorem mul_one_any (k : Nat) (hk : k ≤ 1000000000) (w : World) : Calls Try.prog 45 #[.int .u64 1, .int .u64 (k : Int)] w fun e w' => e = .returned (.tuple #[.int .u64 0, .int .u64 (k : Int)]) ∧ w' = w := by
  have h := Try.bits_Mul 1 k (by omega) (by omega) w
  rw [Nat.one_mul, Nat.div_eq_of_lt (by omega), Nat.mod_eq_of_lt (by omega)] at h
  exact h

/-- m times z, then zeros. -/
def repTo (z : Int) (k m : Nat) : List Int := List.replicate m z ++ List.replicate (k - m) 0
theorem repTo_length (z : Int) (k m : Nat) (h : m ≤ k) : (repTo z k m).length = k := by simp [repTo]; omega
theorem repTo_zero (z : Int) (k : Nat) : repTo z k 0 = List.replicate k 0 := by simp [repTo]
theorem repTo_all (z : Int) (k : Nat) : repTo z k k = List.replicate k z := by simp [repTo]
theorem repTo_splice (z : Int) (k m j : Nat) (h : m + j ≤ k) : splice ((repTo z k m).map (Value.int .i64)) m (List.replicate j (Value.int .i64 z)) = (repTo z k (m + j)).map (Value.int .i64) := by
  unfold splice repTo
  simp only [List.map_append, List.map_replicate]
  rw [List.take_left' (by simp), List.length_replicate, List.drop_append, List.drop_of_length_le (by simp), List.nil_append, List.length_replicate, List.drop_replicate]
  rw [show k - m - (m + j - m) = k - (m + j) by omega, ← List.append_assoc, List.replicate_append_replicate]

theorem sz1 : (Try.prog.info? 3).map (·.size) = some 1 := by kernel_rfl

theorem one_int (w : World) (e : TypeId) (a : Int) : Ints (w.alloc (.cells #[.int .i64 a] e)) (some ⟨w.heap.size, 0, none⟩) 1 1 [a] :=
  ⟨rfl, Nat.le_refl _, fun _ => ⟨w.heap.size, 0, rfl, by simp, fun i hi => by
    obtain rfl : i = 0 := by omega
    simp [gi]⟩⟩

set_option maxHeartbeats 1000000 in
theorem repeat_any (A : Option Addr) (c k : Nat) (z : Int) (w : World) (hx : Ints w A 1 c [z]) (hk : 1 ≤ k) (hk' : k ≤ 1000000) :
    Calls Try.prog 30 #[.slice A 1 c, .int .i64 (k : Int)] w fun e w' => ∃ g, e = .returned (.slice (some ⟨g, 0, none⟩) k k) ∧ w.heap.size ≤ g ∧ Row (Value.int .i64) w' g 3 (List.replicate k z) ∧ Below w.heap.size w w' := by
  have d0 : decide ((k : Int) < 0) = false := by simp
  have d2 : decide ((9223372036854775807 : Int) < (k : Int)) = false := by simp; omega
  have e1 : IntKind.u64.wrap (k : Int) = k := by simp [IntKind.wrap, IntKind.bits, IntKind.signed]; omega
  have hmk := run_make_row (P := Try.prog) (enc := Value.int .i64) uI infoI rfl (k : Int) (by omega) (by omega) (by omega)
  obtain ⟨b, off, rfl, hb, hcell⟩ := hx.get (k := 0) (by omega)
  have c0 := hcell 0 (by omega)
  simp only [Nat.add_zero] at c0
  have hmul := mul_one_any k (by omega) w
  have Hmul := Lib.hid hmul
  clear hmul hcell
  go_enter Try.func30, Try.ntmps30
  go_wp2_with fail
  refine Hmul.out.mono ?_
  rintro e w1 ⟨rfl, hw1⟩
  obtain rfl : w = w1 := hw1.symm
  go_upto_region 7 with fail
  obtain ⟨W, hW⟩ : ∃ W, W = w.alloc (rowObj (Value.int .i64) 3 (List.replicate k 0)) := ⟨_, rfl⟩
  have rg := Row.new (enc := Value.int .i64) w 3 (List.replicate k 0)
  have hbe := (Below.refl w.heap.size w).alloc (Nat.le_refl _) (rowObj (Value.int .i64) 3 (List.replicate k 0))
  rw [← hW] at rg hbe
  rw [← hW]
  clear hW
  have c1 := (hbe.cell (p := ⟨b, off, none⟩) hb).trans c0
  rw [← repTo_zero z k] at rg
  have hmin : Hid ([Value.int .i64 z].length = Nat.min 1 k) := by show 1 = Nat.min 1 k; simp [Nat.min_def]; omega
  have hpos : Hid (0 < [Value.int .i64 z].length → (some (⟨w.heap.size, 0, none⟩ : Addr)) = some ⟨w.heap.size, 0, none⟩ ∧ ∃ ad, (some (⟨b, off, none⟩ : Addr)) = some ad ∧ ∀ j v, [Value.int .i64 z][j]? = some v → W.cell? (ad.add j) = some v) := fun _ => ⟨rfl, _, rfl, fun j v hj => by
    match j, hj with
    | 0, hj => simp at hj; subst hj; rw [addr_add, Nat.add_zero, c1]; rfl⟩
  have hfit : Hid (0 + [Value.int .i64 z].length ≤ ((repTo z k 0).map (Value.int .i64)).length) := by show 0 + 1 ≤ _; rw [List.length_map, repTo_length _ _ _ (by omega)]; omega
  go_wp2_with (refine wpList_copy_splice (o := ⟨some 33, _, _, _, _, _⟩) rfl (.tmp 31) (.tmp 32) _ _ rfl 3 uI sz1 _ _ _ _ _ _ rfl rfl w.heap.size 0 ((repTo z k 0).map (Value.int .i64)) 3 rg [Value.int .i64 z] hmin.out hpos.out hfit.out (fun v hv => by simp at hv; subst hv; rfl) w.heap.size w hbe (Nat.le_refl _) ?_; intro w2 hrow2 hb2)
  have hr2 : Row (Value.int .i64) w2 w.heap.size 3 (repTo z k 1) := by
    have h1 := hrow2.out
    rw [show [Value.int .i64 z] = List.replicate 1 (Value.int .i64 z) from rfl, repTo_splice z k 0 1 (by omega)] at h1
    exact h1
  clear hrow2 hpos hfit hmin rg c1 hbe hmk
  go_loopw [8] (fun i wr => ∃ m : Nat, 1 ≤ m ∧ m ≤ k ∧ i = .int .i64 (m : Int) ∧ Row (Value.int .i64) wr w.heap.size 3 (repTo z k m) ∧ Below w.heap.size w wr) (fun i _ => k - (intOf i).toNat)
  case atStart => exact ⟨1, by omega, by omega, rfl, hr2, hb2⟩
  case round =>
    clear hr2 hb2
    obtain ⟨m, hm1, hm, rfl, hr3, hb3⟩ := hrel
    by_cases hlt : m < k
    · have hi3 := hr3.ints (c := k) (repTo_length z k m (by omega)) (Nat.le_refl _)
      have r4 := run_cut_l (P := Try.prog) (A := some ⟨w.heap.size, 0, none⟩) (n := k) (c := k) tI eI sI (m : Int) (by omega) (by omega)
      simp only [Int.toNat_natCast, if_neg (show ¬ k = m by omega), Option.map_some, addr_add, Nat.zero_add] at r4
      obtain ⟨r5, v5⟩ := hi3.cut_h tI eI sI (m : Int) (by omega) (by omega)
      simp only [Int.toNat_natCast] at r5 v5
      have hmin : Hid ((List.replicate (min m (k - m)) (Value.int .i64 z)).length = Nat.min m (k - m)) := by show _ = _; rw [List.length_replicate]
      have hcell : ∀ j, j < m → wr.cell? ⟨w.heap.size, j, none⟩ = some (.int .i64 z) := fun j hj => by
        rw [hr3.cell 0 (by rw [repTo_length _ _ _ (by omega)]; omega)]
        simp [repTo, List.getD, List.getElem?_append, hj]
      have hsrc : Hid (∀ j v, (List.replicate (min m (k - m)) (Value.int .i64 z))[j]? = some v → wr.drew.cell? ((⟨w.heap.size, 0, none⟩ : Addr).add j) = some v) := fun j v hj => by
        rw [List.getElem?_replicate] at hj
        split at hj
        · injection hj with hj
          subst hj
          rw [addr_add, Nat.zero_add]
          exact hcell j (by omega)
        · cases hj
      have hfit : Hid (m + (List.replicate (min m (k - m)) (Value.int .i64 z)).length ≤ ((repTo z k m).map (Value.int .i64)).length) := by show _ ≤ _; rw [List.length_map, repTo_length _ _ _ (by omega), List.length_replicate]; omega
      have h1 : Hid (∀ v ∈ List.replicate (min m (k - m)) (Value.int .i64 z), v.oneCell' = true) := fun v hv => by rw [(List.mem_replicate.1 hv).2]; rfl
      have hsp := repTo_splice z k m (min m (k - m)) (by omega)
      have Hsp := Lib.hid hsp; clear hsp hcell
      have ew : IntKind.i64.wrap ((m : Int) + ((min m (k - m) : Nat) : Int)) = (m : Int) + ((min m (k - m) : Nat) : Int) := IntWalk.i64_in _ (by omega)
      go_wp2_with fail
      go_region_law (first
        | (refine step_copy_splice (w := wr.drew) (o := ⟨some 45, _, _, _, _, _⟩) rfl (.tmp 41) (.tmp 44) _ _ rfl 3 uI sz1 (some ⟨w.heap.size, m, none⟩) (some ⟨w.heap.size, 0, none⟩) (k - m) (k - m) m k (by simp [Act.eval, Act.put]) (by simp [Act.eval, Act.put]) w.heap.size m ((repTo z k m).map (Value.int .i64)) 3 hr3.drew (List.replicate (min m (k - m)) (Value.int .i64 z)) hmin.out (fun _ => ⟨rfl, _, rfl, hsrc.out⟩) hfit.out h1.out w.heap.size w hb3.drew (Nat.le_refl _) ?_; intro w4 hrow4 hb4))
      all_goals
        clear r4 r5 ew
        simp only [Act.put, List.getElem_toArray, List.getElem_cons_succ, List.getElem_cons_zero, List.setIfInBounds_toArray, List.set_cons_succ, List.set_cons_zero]
        go_wp2_with fail
        go_roundw
        case rel =>
          have h4 := hrow4.out
          rw [Hsp.out] at h4
          exact ⟨m + min m (k - m), by omega, by omega, by go_num, h4, hb4⟩
        case measure => simp [intOf]; omega
    · obtain rfl : m = k := by omega
      go_wp2_with fail
      go_ret
      rw [repTo_all] at hr3
      exact ⟨_, rfl, Nat.le_refl _, hr3, hb3⟩

set_option maxHeartbeats 400000 in
theorem equal_any (A B : Option Addr) (c d n m : Nat) (xs ys : List Int) (w : World) (hx : Ints w A n c xs) (hy : Ints w B m d ys) (hn : n ≤ 1000000000) (hm : m ≤ 1000000000) :
    Calls Try.prog 32 #[.slice A n c, .slice B m d] w fun e w' => e = .returned (.bool (decide (xs = ys))) ∧ ∃ q, w' = w.drewN q := by
  obtain ⟨hxl, -, hxc⟩ := hx
  obtain ⟨hyl, -, hyc⟩ := hy
  by_cases hl : n = m
  · subst hl
    have hne : ((n : Int) != (n : Int)) = false := by simp
    have Hx := Lib.hid hxl; clear hxl
    have Hy := Lib.hid hyl; clear hyl
    go_enter Try.func32, Try.ntmps32
    go_wp2
    go_loopw [13] (fun i wr => ∃ k : Nat, k ≤ n ∧ i = .int .i64 k ∧ Hid (∀ j, j < k → gi xs j = gi ys j) ∧ ∃ q, wr = w.drewN q) (fun i _ => n - (intOf i).toNat)
    case atStart => exact ⟨0, Nat.zero_le _, rfl, fun j hj => absurd hj (by omega), 0, rfl⟩
    case round =>
      obtain ⟨k, hk, rfl, HK, q, rfl⟩ := hrel
      by_cases hlt : k < n
      · obtain ⟨b, off, rfl, hb, hc⟩ := hxc.get hlt
        obtain ⟨b', off', rfl, hb', hc'⟩ := hyc.get hlt
        have h1 := hc k hlt
        have h2 := hc' k hlt
        clear hc hc' hxc hyc
        by_cases he : gi xs k = gi ys k
        · have hd : (gi xs k != gi ys k) = false := by simp [he]
          have He := Lib.hid he
          clear he
          go_wp2
          go_quiet (fail)
          go_wp2
          go_roundw
          case rel => exact ⟨k + 1, by omega, by go_num, fun j hj => by
            rcases Nat.lt_succ_iff_lt_or_eq.1 hj with h | h
            · exact HK.out j h
            · subst h; exact He.out, _, rfl⟩
          case measure => simp [intOf]; omega
        · have hd : (gi xs k != gi ys k) = true := by simp [he]
          go_wp2
          go_quiet (fail)
          go_wp2
          go_ret
          exact ⟨ret_bool (by symm; apply decide_eq_false; intro h; exact he (by rw [h])), _, World.drewN_drewN ..⟩
      · go_wp2
        go_ret
        exact ⟨ret_bool (by symm; apply decide_eq_true; exact gi_ext (Hx.out.trans Hy.out.symm) (fun i hi => HK.out i (by have := Hx.out; omega))), _, rfl⟩
  · have hne : ((n : Int) != (m : Int)) = true := by simp; omega
    have hxy : Hid (decide (xs = ys) = false) := by apply decide_eq_false; intro h; apply hl; rw [← hxl, ← hyl, h]
    clear hxl hyl
    go_enter Try.func32, Try.ntmps32
    go_wp2
    go_ret
    exact ⟨ret_bool hxy.out.symm, 0, rfl⟩

set_option maxHeartbeats 1000000 in
theorem ranks_any (A : Option Addr) (c n : Nat) (zs : List Int) (w : World) (hx : Ints w A n c zs) (hn : n ≤ 65537) :
    Calls Try.prog 14 #[.slice A n c] w (RetInts w (ranksOut zs) (ranksErr zs)) := by
  by_cases h0 : n = 0
  · subst h0
    go_enter Try.func14, Try.ntmps14
    go_wp2
    go_ret2
    have hz : zs = [] := List.eq_nil_of_length_eq_zero hx.1
    subst hz
    exact RetInts.mk rfl (Ints.nil _ _) (Below.refl _ _)
  · have d0 : decide ((n : Int) < 1) = false := by simp; omega
    have d1 : decide ((65537 : Int) < (n : Int)) = false := by simp; omega
    have hl := hx.1
    have he : ranksErr zs = permErr zs := by unfold ranksErr; rw [if_neg (by omega)]
    have He := Lib.hid he; clear he
    have HS := Lib.hid (permErr_start zs)
    rw [hl] at HS
    have Hl := Lib.hid hl; clear hl
    have hrep := repeat_any (some ⟨w.heap.size, 0, none⟩) 1 n (-1) (w.alloc (.cells #[.int .i64 (-1)] 3)) (one_int w _ _) (by omega) (by omega)
    have Hrep := Lib.hid hrep; clear hrep
    go_enter Try.func14, Try.ntmps14
    go_wp2_with fail
    refine Hrep.out.mono ?_
    rintro e w1 ⟨g, rfl, hg, hr1, hb1⟩
    have hb1' : Below w.heap.size w w1 := ((Below.refl _ _).alloc (Nat.le_refl _) _).trans (hb1.mono (by simp))
    have hg' : w.heap.size ≤ g := by simp at hg; omega
    have hx1 := hx.below hb1'
    clear hb1 hg Hrep
    go_wp2_with fail
    go_loopw [21] (fun i wr => ∃ k : Nat, k ≤ n ∧ i = .int .i64 k ∧ Row (Value.int .i64) wr g 3 (rankL (-1) zs n k) ∧ Below w.heap.size w wr ∧ Hid (permErrL n (zs.take k) (zs.drop k) = permErr zs)) (fun i _ => n - (intOf i).toNat)
    case atStart => exact ⟨0, by omega, rfl, by rw [rankL_zero]; exact hr1, hb1', HS.out⟩
    case round =>
      obtain ⟨k, hk, rfl, hrow, hbel, HP⟩ := hrel
      by_cases hlt : k < n
      · have hlt' : Hid (k < zs.length) := by have := Hl.out; show k < zs.length; omega
        obtain ⟨b, off, rfl, hb, hcell⟩ := (hx.below hbel).get hlt
        have c1 := hcell k hlt
        clear hcell hx1
        by_cases h1 : gi zs k < 0
        · have d1 : decide (gi zs k < 0) = true := by simpa using h1
          have hfin : Hid (permErr zs = 2) := by rw [← HP.out]; exact permErr_range hlt'.out (.inl h1)
          clear h1
          go_wp2_with fail
          go_ret2
          refine RetInts.mk (He.out.trans hfin.out).symm ?_ hbel
          unfold ranksOut; rw [He.out, hfin.out]; exact Ints.nil _ _
        · have d1 : decide (gi zs k < 0) = false := by simpa using h1
          by_cases h2 : (n : Int) ≤ gi zs k
          · have d2 : decide ((n : Int) ≤ gi zs k) = true := by simpa using h2
            have hfin : Hid (permErr zs = 2) := by rw [← HP.out]; exact permErr_range hlt'.out (.inr h2)
            go_wp2_with fail
            go_ret2
            refine RetInts.mk (He.out.trans hfin.out).symm ?_ hbel
            unfold ranksOut; rw [He.out, hfin.out]; exact Ints.nil _ _
          · have d2 : decide ((n : Int) ≤ gi zs k) = false := by simp; omega
            have b0 : 0 ≤ gi zs k := by omega
            have b1 : gi zs k < n := by omega
            have hz : (gi zs k).toNat < n := by omega
            have c2 := hrow.cell (j := (gi zs k).toNat) 0 (by rw [rankL_length]; exact hz)
            have f2 := hrow.frozen (gi zs k).toNat
            have g2 : List.getD (rankL (-1) zs n k) (gi zs k).toNat 0 = (if gi zs k ∈ zs.take k then ((zs.idxOf (gi zs k) : Nat) : Int) else -1) := gi_rankL b0 b1
            rw [g2] at c2
            clear g2
            by_cases h3 : gi zs k ∈ zs.take k
            · rw [if_pos h3] at c2
              have d3 : decide ((0 : Int) ≤ ((zs.idxOf (gi zs k) : Nat) : Int)) = true := by simp
              have hfin : Hid (permErr zs = 8) := by rw [← HP.out]; exact permErr_twice hlt'.out b0 b1 h3
              clear h3
              go_wp2_with fail
              go_ret2
              refine RetInts.mk (He.out.trans hfin.out).symm ?_ hbel
              unfold ranksOut; rw [He.out, hfin.out]; exact Ints.nil _ _
            · rw [if_neg h3] at c2
              have hrow' := hrow.set (gi zs k).toNat (k : Int)
              rw [rankL_next hlt'.out b0 b1 h3] at hrow'
              have hfin := Lib.hid ((permErr_next hlt'.out b0 b1 h3).symm.trans HP.out)
              clear h3
              go_wp2_with fail
              go_roundw
              case rel => exact ⟨k + 1, by omega, by go_num, hrow', hbel.setCell hg' _, hfin⟩
              case measure => simp [intOf]; omega
      · obtain rfl : k = n := by omega
        have hfin : Hid (permErr zs = 0) := by rw [← HP.out]; exact permErr_done' (by have := Hl.out; omega)
        go_wp2_with fail
        go_ret2
        refine RetInts.mk (He.out.trans hfin.out).symm ?_ hbel
        unfold ranksOut
        rw [if_pos (He.out.trans hfin.out)]
        have h3 := rankL_done (d := -1) hfin.out
        rw [Hl.out] at h3
        rw [h3] at hrow
        exact hrow.ints (by rw [← h3, rankL_length]) (Nat.le_refl _)
end Go.Proofs.Ytkndcbnajkiceaa
