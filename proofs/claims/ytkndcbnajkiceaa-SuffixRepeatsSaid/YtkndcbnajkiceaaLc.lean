/- The walk of the law SuffixRepeats. -/
import Derived.Test.YtkndcbnajkiceaaLa
namespace Go.Proofs.Ytkndcbnajkiceaa
open Go.RowKit Go.Proofs
set_option linter.unusedVariables false

def maxTo (zs : List Int) : Nat → Int
  | 0 => 0
  | k + 1 => max (maxTo zs k) (gi zs k)
def lgIn (bs : List UInt8) (p : Nat) (acc : Int) : Nat → Int
  | 0 => acc
  | q + 1 => max (lgIn bs p acc q) (lcp (bs.drop p) (bs.drop q) : Nat)
def lgTo (bs : List UInt8) : Nat → Int
  | 0 => 0
  | p + 1 => lgIn bs p (lgTo bs p) p
theorem maxTo_ge {zs : List Int} : ∀ {k i : Nat}, i < k → gi zs i ≤ maxTo zs k
  | k + 1, i, h => by
    rw [maxTo]
    rcases Nat.lt_succ_iff_lt_or_eq.1 h with h | h
    · have := maxTo_ge (zs := zs) h; omega
    · subst h; omega
theorem maxTo_nonneg (zs : List Int) : ∀ k, 0 ≤ maxTo zs k
  | 0 => Int.le_refl _
  | k + 1 => by rw [maxTo]; have := maxTo_nonneg zs k; omega
theorem maxTo_le {zs : List Int} {m : Int} (h0 : 0 ≤ m) : ∀ {k : Nat}, (∀ i, i < k → gi zs i ≤ m) → maxTo zs k ≤ m
  | 0, _ => h0
  | k + 1, h => by
    rw [maxTo]
    have h1 := maxTo_le h0 (k := k) (fun i hi => h i (by omega))
    have h2 := h k (by omega)
    omega
theorem lgIn_ge {bs : List UInt8} {p : Nat} {acc : Int} : ∀ q, acc ≤ lgIn bs p acc q ∧ ∀ r, r < q → (lcp (bs.drop p) (bs.drop r) : Int) ≤ lgIn bs p acc q
  | 0 => ⟨Int.le_refl _, fun r h => absurd h (by omega)⟩
  | q + 1 => by
    have ih := lgIn_ge (bs := bs) (p := p) (acc := acc) q
    rw [lgIn]
    refine ⟨by omega, fun r hr => ?_⟩
    rcases Nat.lt_succ_iff_lt_or_eq.1 hr with h | h
    · have := ih.2 r h; omega
    · subst h; omega
theorem lgIn_le {bs : List UInt8} {p : Nat} {acc m : Int} (h0 : acc ≤ m) : ∀ q, (∀ r, r < q → (lcp (bs.drop p) (bs.drop r) : Int) ≤ m) → lgIn bs p acc q ≤ m
  | 0, _ => h0
  | q + 1, h => by
    have ih := lgIn_le h0 q (fun r hr => h r (by omega))
    have := h q (by omega)
    rw [lgIn]
    omega
theorem lgTo_ge {bs : List UInt8} : ∀ {k p q : Nat}, q < p → p < k → (lcp (bs.drop p) (bs.drop q) : Int) ≤ lgTo bs k
  | k + 1, p, q, h1, h2 => by
    rw [lgTo]
    have hi := lgIn_ge (bs := bs) (p := k) (acc := lgTo bs k) k
    rcases Nat.lt_succ_iff_lt_or_eq.1 h2 with h | h
    · have := lgTo_ge (bs := bs) h1 h; omega
    · subst h; exact hi.2 q h1
theorem lgTo_nonneg (bs : List UInt8) : ∀ k, 0 ≤ lgTo bs k
  | 0 => Int.le_refl _
  | k + 1 => by rw [lgTo]; have := lgTo_nonneg bs k; have := (lgIn_ge (bs := bs) (p := k) (acc := lgTo bs k) k).1; omega
theorem lgTo_le {bs : List UInt8} {m : Int} (h0 : 0 ≤ m) : ∀ {k : Nat}, (∀ p q, q < p → p < k → (lcp (bs.drop p) (bs.drop q) : Int) ≤ m) → lgTo bs k ≤ m
  | 0, _ => h0
  | k + 1, h => by
    rw [lgTo]
    exact lgIn_le (lgTo_le h0 (fun p q h1 h2 => h p q h1 (by omega))) k (fun r hr => h k r hr (by omega))
theorem lcp_le (bs : List UInt8) (p q : Nat) : lcp (bs.drop p) (bs.drop q) ≤ bs.length := by
  have : ∀ x y : List UInt8, lcp x y ≤ x.length := fun x => by
    induction x with
    | nil => intro y; simp [lcp]
    | cons a x ih =>
      intro y
      cases y with
      | nil => simp [lcp]
      | cons b y => rw [lcp]; split <;> simp [ih y]
  have h := this (bs.drop p) (bs.drop q)
  simp at h
  omega
theorem gi_commonL {bs : List UInt8} {zs : List Int} {i : Nat} (h : i < zs.length) : gi (commonL bs zs) i = commonF bs zs i := by
  simp [gi, commonL, commonTo, List.getD, h]
theorem row_pair {bs : List UInt8} {zs : List Int} (hl : zs.length = bs.length + 1) (hp : permErr zs = 0) (hs : zs.Pairwise (before bs)) {p q : Nat} (hpb : p ≤ bs.length) (hqb : q ≤ bs.length) (h : rowOf zs q < rowOf zs p) : (lcp (bs.drop q) (bs.drop p) : Int) ≤ commonF bs zs (rowOf zs p) := by
  have hrp := row_lt hl hp hpb
  unfold commonF
  rw [if_neg (by omega), gi_row hl hp hpb]
  simp only [sfx, Int.toNat_natCast]
  rcases Nat.lt_or_ge (rowOf zs q) (rowOf zs p - 1) with h1 | h1
  · have b1 := rows_before hs (i := rowOf zs q) (j := rowOf zs p - 1) (by omega) h1
    have b2 := rows_before hs (i := rowOf zs p - 1) (j := rowOf zs p) hrp (by omega)
    rw [gi_row hl hp hqb] at b1
    rw [gi_row hl hp hpb] at b2
    unfold before at b1 b2
    simp only [sfx, Int.toNat_natCast] at b1 b2
    have := lcp_mid b1 b2
    omega
  · have e : rowOf zs p - 1 = rowOf zs q := by omega
    rw [e, gi_row hl hp hqb, Int.toNat_natCast]
    omega
theorem repeats_eq {bs : List UInt8} {zs : List Int} (hl : zs.length = bs.length + 1) (hp : permErr zs = 0) (hs : zs.Pairwise (before bs)) : maxTo (commonL bs zs) (bs.length + 1) = lgTo bs bs.length := by
  apply Int.le_antisymm
  · refine maxTo_le (lgTo_nonneg _ _) (fun i hi => ?_)
    rw [gi_commonL (by omega)]
    unfold commonF
    by_cases h0 : i = 0
    · rw [if_pos h0]; exact lgTo_nonneg _ _
    · rw [if_neg h0]
      obtain ⟨h1, h2⟩ := (permErr_zero_iff zs).1 hp
      have a1 := h1 _ (gi_mem (zs := zs) (k := i - 1) (by omega))
      have a2 := h1 _ (gi_mem (zs := zs) (k := i) (by omega))
      obtain ⟨a, ha⟩ := Int.eq_ofNat_of_zero_le a1.1
      obtain ⟨b, hb⟩ := Int.eq_ofNat_of_zero_le a2.1
      have hne : a ≠ b := fun e => by
        have hne := List.pairwise_iff_getElem.1 (List.nodup_iff_pairwise_ne.1 h2) (i - 1) i (by omega) (by omega) (by omega)
        rw [← gi_get, ← gi_get] at hne
        exact hne (by rw [ha, hb, e])
      rw [ha, hb]
      simp only [sfx, Int.toNat_natCast]
      by_cases h3 : a < bs.length ∧ b < bs.length
      · rcases Nat.lt_or_gt_of_ne hne with h4 | h4
        · rw [lcp_comm]; exact lgTo_ge h4 h3.2
        · exact lgTo_ge h4 h3.1
      · have : lcp (bs.drop a) (bs.drop b) = 0 := by
          by_cases h4 : a < bs.length
          · rw [show bs.drop b = [] from List.drop_of_length_le (by omega), lcp_comm]; simp [lcp]
          · rw [show bs.drop a = [] from List.drop_of_length_le (by omega)]; simp [lcp]
        rw [this]
        exact lgTo_nonneg _ _
  · refine lgTo_le (maxTo_nonneg _ _) (fun p q h1 h2 => ?_)
    have hp' := row_lt hl hp (p := p) (by omega)
    have hq' := row_lt hl hp (p := q) (by omega)
    have hne : rowOf zs p ≠ rowOf zs q := fun e => by
      have e1 := gi_row hl hp (p := p) (by omega)
      have e2 := gi_row hl hp (p := q) (by omega)
      rw [e, e2] at e1
      omega
    rcases Nat.lt_or_gt_of_ne hne with h3 | h3
    · have h4 := row_pair hl hp hs (p := q) (q := p) (by omega) (by omega) h3
      have h5 := maxTo_ge (zs := commonL bs zs) (k := bs.length + 1) (i := rowOf zs q) (by omega)
      rw [gi_commonL hq'] at h5
      omega
    · have h4 := row_pair hl hp hs (p := p) (q := q) (by omega) (by omega) h3
      have h5 := maxTo_ge (zs := commonL bs zs) (k := bs.length + 1) (i := rowOf zs p) (by omega)
      rw [gi_commonL hp'] at h5
      rw [lcp_comm]
      omega

set_option maxRecDepth 100000 in
set_option maxHeartbeats 2000000 in
theorem suffixRepeats_any (A : Option Addr) (c n : Nat) (bs : List UInt8) (w : World) (hx : Bytes w A n c bs) :
    Calls Try.prog 7 #[.slice A n c] w fun e w' => e = .returned (.bool true) ∧ Below w.heap.size w w' := by
  by_cases hn : 120 < n
  · have d0 : decide ((120 : Int) < (n : Int)) = true := by simp; omega
    go_enter Try.func7, Try.ntmps7
    go_wp2_with fail
    refine (awake_any _).mono ?_
    rintro e w1 ⟨rfl, hb1⟩
    go_wp2_with fail
    go_ret
    exact ⟨rfl, hb1⟩
  · have d0 : decide ((120 : Int) < (n : Int)) = false := by simp; omega
    have Hx := Lib.hid hx.1
    have h1 := sort_any A c n bs w hx (by omega)
    have H1 := Lib.hid h1; clear h1
    have d1 : ((((n : Int) + 1)) != ((n : Int) + 1)) = false := by simp
    have hce := checkErr_sortL bs (by have := Hx.out; omega)
    have hco : commonOut bs (sortL bs) = commonL bs (sortL bs) := by unfold commonOut; rw [if_pos hce]
    have hfin := repeats_eq (bs := bs) (sortL_length bs) (sortL_perm bs) (sortL_sorted bs)
    rw [Hx.out] at hfin
    have Hce := Lib.hid hce; clear hce
    have Hco := Lib.hid hco; clear hco
    have Hfin := Lib.hid hfin; clear hfin
    go_enter Try.func7, Try.ntmps7
    go_wp2_with fail
    refine H1.out.mono ?_
    rintro e w1 ⟨A1, n1, c1, rfl, hs1, hb1⟩
    have hl1 := hs1.1
    rw [sortL_length, Hx.out] at hl1
    subst hl1
    have hxw := hx.below hb1
    have h2 := common2_any _ _ _ _ _ _ _ _ _ hxw hs1 (by omega) (by omega)
    rw [Hce.out, Hco.out] at h2
    have H2 := Lib.hid h2; clear h2
    go_wp2_with fail
    refine H2.out.mono ?_
    rintro e w2 ⟨A2, n2, c2, rfl, hs2, hb2⟩
    have hl2 := hs2.1
    rw [commonL, commonTo_length, sortL_length, Hx.out] at hl2
    subst hl2
    have hx2 := hxw.below hb2
    have hb2' := hb1.trans (hb2.mono hb1.size)
    clear hxw hs1 hb1 hb2 H1 H2
    obtain ⟨cs, hcs⟩ : ∃ cs, cs = commonL bs (sortL bs) := ⟨_, rfl⟩
    rw [← hcs] at hs2
    have HF : Hid (maxTo cs (n + 1) = lgTo bs n) := by rw [hcs]; exact Hfin.out
    clear hcs Hfin Hco Hce
    go_wp2_with fail
    go_loop [7, 9] (fun a i => ∃ k : Nat, k ≤ n + 1 ∧ i = .int .i64 (k : Int) ∧ a = .int .i64 (maxTo cs k)) (fun _ i => n + 1 - (intOf i).toNat)
    case atStart => exact ⟨0, by omega, rfl, rfl⟩
    case round =>
      obtain ⟨k, hk, rfl, rfl⟩ := hrel
      by_cases hlt : k < n + 1
      · obtain ⟨b, off, rfl, -, hcell⟩ := hs2.get hlt
        have c3 := hcell k hlt
        clear hcell
        have hst : Hid (maxTo cs (k + 1) = max (maxTo cs k) (gi cs k)) := rfl
        go_wp2_with fail
        go_round
        case rel => exact ⟨k + 1, by omega, by go_num, by rw [hst.out]⟩
        case measure => simp [intOf]; omega
      · have hm : Hid (maxTo cs k = lgTo bs n) := by rw [show k = n + 1 by omega]; exact HF
        have hdk : decide ((k : Int) < (n : Int) + 1) = false := by simp; omega
        go_wp2_with fail
        go_loopw [8, 10] (fun a i wr => ∃ p : Nat, p ≤ n ∧ i = .int .i64 (p : Int) ∧ a = .int .i64 (lgTo bs p) ∧ Drawn w2 wr) (fun _ i _ => n - (intOf i).toNat)
        case atStart => exact ⟨0, by omega, rfl, rfl, Drawn.refl _⟩
        case round =>
          obtain ⟨p, hp, rfl, rfl, hdr⟩ := hrel
          obtain ⟨wo, rfl⟩ : ∃ wo : World, wo = wr := ⟨_, rfl⟩
          by_cases hlp : p < n
          · have dp : decide ((p : Int) < (n : Int)) = true := by simp; omega
            have hx3 := hx2.below (hdr.below _)
            go_wp2_with fail
            go_loopw [8, 11] (fun a i wr => ∃ q : Nat, q ≤ p ∧ i = .int .i64 (q : Int) ∧ a = .int .i64 (lgIn bs p (lgTo bs p) q) ∧ Drawn wo wr) (fun _ i _ => p - (intOf i).toNat)
            case atStart => exact ⟨0, by omega, rfl, rfl, Drawn.refl _⟩
            case round =>
              obtain ⟨q, hq, rfl, rfl, hdr2⟩ := hrel
              obtain ⟨wq, rfl⟩ : ∃ wq : World, wq = wr := ⟨_, rfl⟩
              by_cases hlq : q < p
              · have dq : decide ((q : Int) < (p : Int)) = true := by simp; omega
                have hx4 := hx3.below (hdr2.below _)
                go_wp2_with fail
                go_loopw [12] (fun a wr => ∃ j : Nat, a = .int .i64 (j : Int) ∧ p + j ≤ n ∧ Hid (∀ i, i < j → p + i < bs.length ∧ q + i < bs.length ∧ gb bs (p + i) = gb bs (q + i)) ∧ Drawn wq wr) (fun a _ => n - (intOf a).toNat)
                case atStart => exact ⟨0, rfl, by omega, fun i hi => absurd hi (by omega), Drawn.refl _⟩
                case round =>
                  obtain ⟨j, rfl, hj, HJ, hdr3⟩ := hrel
                  have hx5 := hx4.below (hdr3.below _)
                  have fin : (p + j < n → gb bs (p + j) ≠ gb bs (q + j)) → lcp (bs.drop p) (bs.drop q) = j := fun h =>
                    lcp_end bs p q j HJ.out (fun h1 h2 => h (by have := Hx.out; omega))
                  have Fin := Lib.hid fin; clear fin
                  by_cases hlj : p + j < n
                  · have dj : decide ((p : Int) + (j : Int) < (n : Int)) = true := by simp; omega
                    obtain ⟨b4, o4, rfl, -, hcell4⟩ := hx5.get hlj
                    have c5 := hcell4 (p + j) (by omega)
                    have c6 := hcell4 (q + j) (by omega)
                    clear hcell4
                    by_cases he : gb bs (p + j) = gb bs (q + j)
                    · have d7 : (gb bs (p + j) == gb bs (q + j)) = true := by simp [he]
                      have He := Lib.hid he; clear he
                      go_wp2_with fail
                      go_quiet (fail)
                      go_wp2_with fail
                      go_roundw
                      case rel => exact ⟨j + 1, by go_num, by omega, fun i hi => by
                        rcases Nat.lt_or_ge i j with h | h
                        · exact HJ.out i h
                        · obtain rfl : i = j := by omega
                          have := Hx.out
                          exact ⟨by omega, by omega, He.out⟩, hdr3.step _⟩
                      case measure => simp [intOf]; omega
                    · have d7 : (gb bs (p + j) == gb bs (q + j)) = false := by simp [he]
                      have HL := Lib.hid (Fin.out (fun _ => he))
                      clear he
                      go_wp2_with fail
                      go_quiet (fail)
                      clear c5 c6 d7 dj
                      go_wp2_with fail
                      go_roundw
                      case rel => exact ⟨q + 1, by omega, by go_num, by show _ = Value.int .i64 (max (lgIn bs p (lgTo bs p) q) (lcp (bs.drop p) (bs.drop q) : Nat)); rw [HL.out], hdr2.trans (hdr3.step _)⟩
                      case measure => simp [intOf]; omega
                  · have dj : decide ((p : Int) + (j : Int) < (n : Int)) = false := by simp; omega
                    have HL := Lib.hid (Fin.out (fun h => absurd h hlj))
                    go_wp2_with fail
                    go_quiet (fail)
                    clear dj
                    go_wp2_with fail
                    go_roundw
                    case rel => exact ⟨q + 1, by omega, by go_num, by show _ = Value.int .i64 (max (lgIn bs p (lgTo bs p) q) (lcp (bs.drop p) (bs.drop q) : Nat)); rw [HL.out], hdr2.trans (hdr3.step _)⟩
                    case measure => simp [intOf]; omega
              · have dq : decide ((q : Int) < (p : Int)) = false := by simp; omega
                obtain rfl : q = p := by omega
                go_wp2_with fail
                go_roundw
                case rel => exact ⟨q + 1, by omega, by go_num, rfl, hdr.trans hdr2⟩
                case measure => simp [intOf]; omega
          · have dp : decide ((p : Int) < (n : Int)) = false := by simp; omega
            obtain rfl : p = n := by omega
            have hb3 := hb2'.trans (hdr.below _)
            have dfin : (maxTo cs k == lgTo bs p) = true := by rw [hm.out]; simp
            go_wp2_with fail
            refine (awake_any _).mono ?_
            rintro e w5 ⟨rfl, hb5⟩
            go_wp2_with fail
            go_ret
            exact ⟨rfl, hb3.trans (hb5.mono hb3.size)⟩
end Go.Proofs.Ytkndcbnajkiceaa
