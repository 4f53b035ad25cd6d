/- The walk of the law BwtPermutes; Clone and Delete of ints. -/
import Derived.Test.YtoodfmilleodaaaCe
import Derived.Test.YtoodfmilleodaaaCf
import Derived.Laws.IdiomCopy
namespace Go.Proofs.Ytoodfmilleodaaa
open Go.RowKit Go.Proofs Go.Sort
set_option linter.unusedVariables false

theorem below_cells {B b : Nat} {a : World} (hb : B ≤ b) : ∀ (vs : List Value) (o : Nat) (w : World), Below B a w → Below B a (w.setCells b o vs)
  | [], _, _, h => h
  | v :: r, o, w, h => below_cells hb r (o + 1) _ (h.setCell (by exact hb) v)
theorem cloneI_any (A : Option Addr) (n c : Nat) (zs : List Int) (w : World) (hx : Ints w A n c zs) (h0 : 0 < n) (hn : n ≤ 1000000000) :
    Calls Try.prog 23 #[.slice A n c] w fun e w' => ∃ g cap, e = .returned (.slice (some ⟨g, 0, none⟩) n cap) ∧ w.heap.size ≤ g ∧ Own (Value.int .i64) w' w.heap.size 3 (some ⟨g, 0, none⟩) n cap zs ∧ Below w.heap.size w w' := by
  obtain ⟨b, off, rfl, hb, hc⟩ := hx.get h0
  have hl := hx.1
  refine (Try.slices_Clone_int b off n c zs w (by omega) (by omega) (fun j hj => hc j (by omega))).mono ?_
  rintro e w' ⟨v, rfl, ho, -, hbel⟩
  obtain ⟨g, cap, rfl, hg, hlt⟩ := World.ownsRow.form ho h0
  refine ⟨g, cap, rfl, hg, ?_, hbel⟩
  rw [show zs.take n = zs from List.take_of_length_le (by omega)] at ho
  exact ho
theorem deleteI_any (g n cap p B : Nat) (zs : List Int) (w : World) (hx : Own (Value.int .i64) w B 3 (some ⟨g, 0, none⟩) n cap zs) (hB : B ≤ g) (hp : p < n) :
    Calls Try.prog 22 #[.slice (some ⟨g, 0, none⟩) n cap, .int .i64 (p : Int), .int .i64 ((p : Int) + 1)] w fun e w' => e = .returned (.slice (some ⟨g, 0, none⟩) (n - 1) cap) ∧ Ints w' (some ⟨g, 0, none⟩) (n - 1) cap (zs.take p ++ zs.drop (p + 1)) ∧ Below B w w' := by
  have hl := hx.length
  have hi := hx.ints
  have hcap := hx.cap
  have hmax : cap ≤ maxLen := by
    rcases hx.2 with ⟨h1, _⟩ | ⟨g', cap', cur, h1, _, _, _, h2, _⟩
    · cases h1
    · injection h1 with _ _ h3; omega
  obtain ⟨b, off, e, hb, hc⟩ := hi.get (k := 0) (by omega)
  injection e with e
  injection e with e1 e2
  subst e1 e2
  have key := Try.slices_Delete_int_cells g 0 n cap p (p + 1) zs w (by omega) hcap (by have : maxLen = 9223372036854775807 := rfl; omega) (by omega) (by omega) (fun j hj => hc j (by omega)) (fun j hj => by rw [Nat.zero_add]; exact World.ownsRow.frozenAt hx j)
  push_cast at key
  refine key.mono ?_
  rintro e w' ⟨rfl, q, rfl⟩
  rw [show p + 1 - p = 1 by omega, show zs.take n = zs from List.take_of_length_le (by omega)]
  refine ⟨rfl, ⟨by simp; omega, by omega, fun hn => ⟨g, 0, rfl, ?_, fun i hi' => ?_⟩⟩, below_cells hB _ _ _ ((Drawn.drewN _ _).below _)⟩
  · exact Nat.lt_of_lt_of_le hb (below_cells (Nat.zero_le _) _ _ _ (((Drawn.drewN w q).below 0))).size
  · have hlen : (List.map (Value.int .i64) (zs.take p ++ zs.drop (p + 1) ++ List.replicate 1 0)).length = n := by simp; omega
    have := World.cell?_setCells_in g (List.map (Value.int .i64) (zs.take p ++ zs.drop (p + 1) ++ List.replicate 1 0)) 0 (w.drewN q) (fun j hj => by
      have h3 := hc j (by omega)
      show (w.cell? ⟨g, 0 + j, none⟩).isSome = true
      rw [h3]; rfl) i (by omega)
    rw [this]
    have hlt : i < (zs.take p ++ zs.drop (p + 1)).length := by simp; omega
    rw [List.getElem_map, List.getElem_append_left hlt, ← gi_get hlt]
theorem gi_rest (zs : List Int) {p k : Nat} (hp : p < zs.length) : gi (zs.take p ++ zs.drop (p + 1)) k = gi zs (rowN p k) := by
  unfold gi rowN
  rw [List.getD_eq_getElem?_getD, List.getD_eq_getElem?_getD]
  split
  · rename_i h
    rw [List.getElem?_append_left (by rw [List.length_take]; omega), List.getElem?_take, if_pos h]
  · rename_i h
    rw [List.getElem?_append_right (by rw [List.length_take]; omega), List.getElem?_drop, List.length_take, show p + 1 + (k - min p zs.length) = k + 1 by omega]
theorem lkAll_perm {p : Nat} {bs : List UInt8} (hp : p ≤ bs.length) : permErr (lkAll p bs) = 0 := by
  rw [lkAll_eq hp, permErr_zero_iff]
  constructor
  · intro z hz
    obtain ⟨k, hk, rfl⟩ := List.mem_map.1 hz
    have := lk_le hp (r := k) (by simp at hk; omega)
    simp
    omega
  · rw [List.Nodup, List.pairwise_map]
    refine List.Pairwise.imp_of_mem (R := fun a b => a ≠ b) ?_ List.nodup_range
    intro a b ha hb hne e
    exact hne (lk_inj hp (by simp at ha; omega) (by simp at hb; omega) (by omega))
theorem perm_fresh {zs : List Int} (h : permErr zs = 0) {i : Nat} (hi : i < zs.length) : gi zs i ∉ zs.take i := fun hm => by
  have hnd := ((permErr_zero_iff _).1 h).2
  have e : zs = zs.take i ++ zs.drop i := (List.take_append_drop i _).symm
  rw [e, List.nodup_append] at hnd
  exact hnd.2.2 _ hm _ (by rw [drop_gi hi]; simp) rfl
theorem rest_lt {p : Nat} {bs : List UInt8} (hp : p ≤ bs.length) {k i : Nat} (hk : k < i) (hi : i < bs.length) : decide (gb bs k ≤ gb bs i) = decide (gi (lkAll p bs) (rowN p k) < gi (lkAll p bs) (rowN p i)) := by
  have hr : ∀ j, j < bs.length → rowN p j ≤ bs.length ∧ rowN p j ≠ p ∧ rowI p (rowN p j) = j := fun j hj => by
    refine ⟨by unfold rowN; split <;> omega, by unfold rowN; split <;> omega, ?_⟩
    unfold rowN rowI
    repeat' split
    all_goals omega
  obtain ⟨a1, a2, a3⟩ := hr k (by omega)
  obtain ⟨b1, b2, b3⟩ := hr i hi
  rw [gi_lkAll hp a1, gi_lkAll hp b1]
  unfold lk
  rw [if_neg a2, if_neg b2, a3, b3]
  have h := lkN_lt_iff (bs := bs) (i := k) (j := i) (by omega) hi
  have e1 : gb bs k = (bn bs k : Int) := rfl
  have e2 : gb bs i = (bn bs i : Int) := rfl
  rw [e1, e2]
  apply decide_eq_decide.2
  rw [Int.ofNat_le, Int.ofNat_lt, h]
  omega

set_option maxRecDepth 100000 in
set_option maxHeartbeats 2000000 in
theorem bwtPermutes_any (A : Option Addr) (n c X : Nat) (bs : List UInt8) (w : World) (hx : Bytes w A n c bs) (hX : X ≤ 65535) :
    Calls Try.prog 6 #[.slice A n c, .int .u16 (X : Int)] w fun e w' => e = .returned (.bool true) ∧ Below w.heap.size w w' := by
  have Hn := Lib.hid hx.1
  by_cases h1 : 200 < n
  · have d1 : decide ((200 : Int) < (n : Int)) = true := by simp; omega
    have d1' : decide (200 < n) = true := by simp; omega
    go_enter Try.func6, Try.ntmps6
    go_wp2_with fail
    refine (awake_any _).mono ?_
    rintro e w1 ⟨rfl, hb1⟩
    go_wp2_with fail
    go_ret
    exact ⟨rfl, hb1⟩
  · have d1 : decide ((200 : Int) < (n : Int)) = false := by simp; omega
    have d1' : decide (200 < n) = false := by simp; omega
    have hrem := rem_nat X n
    have hq : X % (n + 1) ≤ n := by have := Nat.mod_lt X (by omega : 0 < n + 1); omega
    obtain ⟨q, hqe⟩ : ∃ q, q = X % (n + 1) := ⟨_, rfl⟩
    rw [← hqe] at hrem hq
    clear hqe
    have hq' : Hid (q ≤ bs.length) := by show _ ≤ _; rw [Hn.out]; exact hq
    have hl' : Hid (bs.length ≤ 65536) := by show _ ≤ _; rw [Hn.out]; omega
    have hcal := linksP_any A n c (q : Int) bs w hx (by omega)
    rw [limE_ok (by omega) hq] at hcal
    have hlr : lkRes bs (q : Int) = lkAll q bs := by unfold lkRes; rw [limE_ok hl'.out hq'.out, if_pos rfl, Int.toNat_natCast]
    rw [hlr] at hcal
    have Hcal := Lib.hid hcal; clear hcal hlr
    have hmk := run_make_row (P := Try.prog) (enc := Value.bool) uL infoL rfl ((n : Int) + 1) (by omega) (by omega) (by omega)
    rw [show ((n : Int) + 1).toNat = n + 1 by omega] at hmk
    obtain ⟨zs, hzs⟩ : ∃ zs, zs = lkAll q bs := ⟨_, rfl⟩
    have HZ := Lib.hid hzs
    rw [← hzs] at Hcal
    clear hzs
    have HP : Hid (permErr zs = 0) := by show _ = _; rw [HZ.out]; exact lkAll_perm hq'.out
    have HL : Hid (zs.length = n + 1) := by show _ = _; rw [HZ.out]; unfold lkAll; rw [lkTo_length, Hn.out]
    have hzq : gi zs q = 0 := by rw [HZ.out, gi_lkAll hq'.out hq'.out]; unfold lk; rw [if_pos rfl]; rfl
    go_enter Try.func6, Try.ntmps6
    go_wp2_with fail
    refine Hcal.out.mono ?_
    rintro e w1 ⟨A1, n1, c1, rfl, k1, hb1⟩
    have hn1 : n1 = n + 1 := by rw [← k1.1, HL.out]
    subst hn1
    obtain ⟨b, off, rfl, hbl, hcell⟩ := k1.get (k := 0) (by omega)
    have cq := hcell q (by omega)
    rw [hzq] at cq
    clear hcell Hcal hzq
    have hx1 := hx.below hb1
    have d1 : ((n : Int) + 1 != (n : Int) + 1) = false := by simp
    go_wp2_with fail
    clear hmk cq
    go_loopw [52] (fun i wr => ∃ k : Nat, k ≤ n + 1 ∧ i = .int .i64 k ∧ Row Value.bool wr w1.heap.size 4 (seenL zs (n + 1) k) ∧ Below w1.heap.size w1 wr) (fun i _ => n + 1 - (intOf i).toNat)
    case atStart => exact ⟨0, by omega, rfl, by rw [seenL_zero]; exact Row.new w1 _ _, (Below.refl _ _).alloc (Nat.le_refl _) _⟩
    case round =>
      obtain ⟨k, hk, rfl, hrow, hbel⟩ := hrel
      by_cases hlt : k < n + 1
      · have hlt' : Hid (k < zs.length) := by show _ < _; rw [HL.out]; exact hlt
        have e0 : decide ((k : Int) < (n : Int) + 1) = true := by simp; omega
        have hbel2 := hbel.setCell (p := ⟨w1.heap.size, (gi zs k).toNat, none⟩) (Nat.le_refl _) (Value.bool true)
        obtain ⟨b', off', e', -, hcell⟩ := (k1.below hbel).get hlt
        injection e' with e'
        injection e' with e1 e2
        subst e1 e2
        have c1 := hcell k (by omega)
        clear hcell
        obtain ⟨a0, a1⟩ := ((permErr_zero_iff _).1 HP.out).1 _ (gi_mem hlt'.out)
        rw [HL.out] at a1
        have d2 : decide (gi zs k < 0) = false := by simp; omega
        have d3 : decide ((n : Int) + 1 ≤ gi zs k) = false := by simp; omega
        have hz : (gi zs k).toNat < n + 1 := by omega
        have c2 := hrow.cell (j := (gi zs k).toNat) false (by rw [seenL_length]; exact hz)
        have f2 := hrow.frozen (gi zs k).toNat
        have g2 := gt_seenL (zs := zs) (n := n + 1) (k := k) a0 (by omega)
        unfold gt at g2
        rw [g2, decide_eq_false (perm_fresh HP.out hlt'.out)] at c2
        clear g2
        have hrow' := hrow.set (gi zs k).toNat true
        rw [seenL_next hlt'.out a0 (by omega)] at hrow'
        go_wp2_with fail
        go_roundw
        case rel => exact ⟨k + 1, by omega, by go_num, hrow', hbel2⟩
        case measure => simp [intOf]; omega
      · have e0 : decide ((k : Int) < (n : Int) + 1) = false := by simp; omega
        clear hrow
        have b2 := hb1.trans (hbel.mono hb1.size)
        have hx2 := hx1.below hbel
        have H2 := Lib.hid (cloneI_any _ (n + 1) c1 zs wr (k1.below hbel) (by omega) (by omega))
        clear hbel k1 hx1
        go_wp2_with fail
        refine H2.out.mono ?_
        rintro e w3 ⟨g, cap, rfl, hg, ho3, hb3⟩
        have H3 := Lib.hid (deleteI_any g (n + 1) cap q wr.heap.size zs w3 ho3 hg (by omega))
        clear H2
        have hx3 := hx2.below hb3
        have b3 := b2.trans (hb3.mono b2.size)
        rw [Nat.add_sub_cancel] at H3
        go_wp2_with fail
        refine H3.out.mono ?_
        rintro e w4 ⟨rfl, k4, hb4⟩
        have hx4 : Bytes w4 A n c bs := hx2.below (hb3.trans hb4)
        have b4 := b2.trans ((hb3.trans hb4).mono b2.size)
        clear H3 hb3 hb4 ho3 hx3 b3
        obtain ⟨rs, hrs⟩ : ∃ rs, rs = zs.take q ++ zs.drop (q + 1) := ⟨_, rfl⟩
        rw [← hrs] at k4
        have HD : Hid (∀ k i, k < i → i < n → decide (gb bs k ≤ gb bs i) = decide (gi rs k < gi rs i)) := fun k i hk hi => by
          rw [hrs, gi_rest zs (by rw [HL.out]; omega), gi_rest zs (by rw [HL.out]; omega), HZ.out]
          exact rest_lt hq'.out hk (by rw [Hn.out]; exact hi)
        clear hrs
        go_wp2_with fail
        go_loopw [82] (fun i wr => ∃ (k : Nat) (r : Nat), k ≤ n ∧ i = .int .i64 k ∧ wr = w4.drewN r) (fun i _ => n - (intOf i).toNat)
        case atStart => exact ⟨0, 0, by omega, rfl, rfl⟩
        case round =>
          obtain ⟨i, r, hi, rfl, rfl⟩ := hrel
          by_cases hlt : i < n
          · have e0 : decide ((i : Int) < (n : Int)) = true := by simp; omega
            have e0' : decide (i < n) = true := by simp; omega
            go_wp2_with fail
            go_loopw [86] (fun j wr => ∃ (k : Nat) (r : Nat), k ≤ i ∧ j = .int .i64 k ∧ wr = w4.drewN r) (fun j _ => i - (intOf j).toNat)
            case atStart => exact ⟨0, r, by omega, rfl, rfl⟩
            case round =>
              obtain ⟨j, r', hj, rfl, rfl⟩ := hrel
              by_cases hlt2 : j < i
              · have e1 : decide ((j : Int) < (i : Int)) = true := by simp; omega
                have e1' : decide (j < i) = true := by simp; omega
                obtain ⟨b5, off5, rfl, hb5, hc5⟩ := hx4.get (k := j) (by omega)
                obtain ⟨b6, off6, e6, hb6, hc6⟩ := k4.get (k := j) (by omega)
                injection e6 with e6
                injection e6 with e7 e8
                subst e7 e8
                have c5 := hc5 j (by omega)
                have c6 := hc5 i (by omega)
                have c7 := hc6 j (by omega)
                have c8 := hc6 i (by omega)
                rw [Nat.zero_add] at c7 c8
                clear hc5 hc6
                have hd := HD.out j i hlt2 hlt
                have hjn : j < n := by omega
                have dn : ∀ x : Bool, (x != x) = false := fun x => by cases x <;> rfl
                go_wp2_with fail
                go_quiet (fail)
                go_wp2_with fail
                go_roundw
                case rel => exact ⟨j + 1, _, by omega, by go_num, rfl⟩
                case measure => simp [intOf]; omega
              · have e1 : decide ((j : Int) < (i : Int)) = false := by simp; omega
                have e1' : decide (j < i) = false := by simp; omega
                go_wp2_with fail
                go_roundw
                case rel => exact ⟨i + 1, _, by omega, by go_num, rfl⟩
                case measure => simp [intOf]; omega
          · have e0 : decide ((i : Int) < (n : Int)) = false := by simp; omega
            have e0' : decide (i < n) = false := by simp; omega
            go_wp2_with fail
            refine (awake_any _).mono ?_
            rintro e wz ⟨rfl, hbz⟩
            go_wp2_with fail
            go_ret
            have b5 := bdrew b4 r
            exact ⟨rfl, b5.trans (hbz.mono b5.size)⟩
end Go.Proofs.Ytoodfmilleodaaa
