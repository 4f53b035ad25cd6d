/- Contracts of layer 17: Same, and the reference's; Few. -/
import Derived.Test.YtmijalhilalaoaaGreatDoorTl
namespace Go.Proofs.YtmijalhilalaoaaGreatDoor
open Go.RowKit Go.Proofs
set_option linter.unusedVariables false

theorem eqArr_any (A A' : Option Addr) (n c n' c' : Nat) (xs ys : List Arr) (w : World) (hx : Arrs w A n c xs) (hy : Arrs w A' n' c' ys) (hn : n ≤ 100000) (hm : n' ≤ 100000) :
    Calls Tryz.prog 20 #[.slice A n c, .slice A' n' c'] w fun e w' => e = .returned (.bool (decide (xs = ys))) ∧ Drawn w w' := by
  have Hn := Lib.hid hx.1
  have Hm := Lib.hid hy.1
  by_cases hl : n = n'
  · subst hl
    go_enter Tryz.func20, Tryz.ntmps20
    go_wp2_with fail
    go_loopw [13] (fun i wr => ∃ k : Nat, k ≤ n ∧ i = .int .i64 (k : Int) ∧ Hid (∀ j, j < k → gA xs j = gA ys j) ∧ Drawn w wr) (fun i _ => n - (intOf i).toNat)
    case atStart => exact ⟨0, Nat.zero_le _, rfl, fun j hj => absurd hj (by omega), Drawn.refl _⟩
    case round =>
      obtain ⟨k, hk, rfl, HK, u, rfl⟩ := hrel
      by_cases hlt : k < n
      · have e1 : decide ((k : Int) < (n : Int)) = true := by simp; omega
        have e1' : decide (k < n) = true := by simp; omega
        obtain ⟨b, off, rfl, hbl, hcell⟩ := hx.get hlt
        obtain ⟨b2, off2, rfl, hbl2, hcell2⟩ := hy.get hlt
        obtain ⟨q1, q2⟩ := hcell k hlt
        obtain ⟨q3, q4⟩ := hcell2 k hlt
        have HS : Hid (gA xs k ≠ gA ys k → decide (xs = ys) = false) := fun h => decide_eq_false (fun e => h (by rw [e]))
        have HG : Hid (gA xs k = gA ys k → ∀ j, j < k + 1 → gA xs j = gA ys j) := fun h j hj => by
          rcases Nat.lt_or_ge j k with h1 | h1
          · exact HK.out j h1
          · obtain rfl : j = k := by omega
            exact h
        obtain ⟨x, hxe⟩ : ∃ x, x = gA xs k := ⟨_, rfl⟩
        obtain ⟨y, hye⟩ : ∃ y, y = gA ys k := ⟨_, rfl⟩
        rw [← hxe] at q1 q2 HS HG
        rw [← hye] at q3 q4 HS HG
        clear hxe hye hcell hcell2 HK
        obtain ⟨o1, x1⟩ := x
        obtain ⟨o2, x2⟩ := y
        dsimp only at q1 q2 q3 q4
        have u1 := stA
        have u2 := utA
        have u3 := gdA
        have hq := neqA ⟨o1, x1⟩ ⟨o2, x2⟩
        dsimp only at hq
        by_cases he : (⟨o1, x1⟩ : Arr) = ⟨o2, x2⟩
        · rw [decide_eq_true he] at hq
          have HG' := Lib.hid (HG.out he)
          clear HS HG
          go_wp2_with fail
          go_quiet (fail)
          go_wp2_with fail
          go_roundw
          case rel => exact ⟨k + 1, by omega, by go_num, HG'.out, ⟨_, rfl⟩⟩
          case measure => simp [intOf]; omega
        · rw [decide_eq_false he] at hq
          have Z := Lib.hid (HS.out he)
          clear HS HG
          go_wp2_with fail
          go_quiet (fail)
          go_wp2_with fail
          go_ret
          exact ⟨ret_bool Z.out.symm, Drawn.step ⟨u, rfl⟩ _⟩
      · have e1 : decide ((k : Int) < (n : Int)) = false := by simp; omega
        have e1' : decide (k < n) = false := by simp; omega
        have Z : Hid (decide (xs = ys) = true) := decide_eq_true (list_ext_gA (by rw [Hn.out, Hm.out]) (fun j hj => HK.out j (by rw [Hn.out] at hj; omega)))
        go_wp2_with fail
        go_ret
        exact ⟨ret_bool Z.out.symm, ⟨_, rfl⟩⟩
  · have f1 : ((n : Int) != (n' : Int)) = true := by simp; omega
    have f1' : (n != n') = true := by simp; omega
    have Z : Hid (decide (xs = ys) = false) := decide_eq_false (fun e => hl (by rw [← Hn.out, ← Hm.out, e]))
    go_enter Tryz.func20, Tryz.ntmps20
    go_wp2_with fail
    go_ret
    exact ⟨ret_bool Z.out.symm, Drawn.refl _⟩
theorem eqIns_any (A A' : Option Addr) (n c n' c' : Nat) (xs ys : List Ins) (w : World) (hx : Codes w A n c xs) (hy : Codes w A' n' c' ys) (hn : n ≤ 100000) (hm : n' ≤ 100000) :
    Calls Tryz.prog 21 #[.slice A n c, .slice A' n' c'] w fun e w' => e = .returned (.bool (decide (xs = ys))) ∧ Drawn w w' := by
  have Hn := Lib.hid hx.1
  have Hm := Lib.hid hy.1
  by_cases hl : n = n'
  · subst hl
    go_enter Tryz.func21, Tryz.ntmps21
    go_wp2_with fail
    go_loopw [13] (fun i wr => ∃ k : Nat, k ≤ n ∧ i = .int .i64 (k : Int) ∧ Hid (∀ j, j < k → gI xs j = gI ys j) ∧ Drawn w wr) (fun i _ => n - (intOf i).toNat)
    case atStart => exact ⟨0, Nat.zero_le _, rfl, fun j hj => absurd hj (by omega), Drawn.refl _⟩
    case round =>
      obtain ⟨k, hk, rfl, HK, u, rfl⟩ := hrel
      by_cases hlt : k < n
      · have e1 : decide ((k : Int) < (n : Int)) = true := by simp; omega
        have e1' : decide (k < n) = true := by simp; omega
        obtain ⟨b, off, rfl, hbl, hcell⟩ := hx.get hlt
        obtain ⟨b2, off2, rfl, hbl2, hcell2⟩ := hy.get hlt
        obtain ⟨q1, q2⟩ := hcell k hlt
        obtain ⟨q3, q4⟩ := hcell2 k hlt
        have HS : Hid (gI xs k ≠ gI ys k → decide (xs = ys) = false) := fun h => decide_eq_false (fun e => h (by rw [e]))
        have HG : Hid (gI xs k = gI ys k → ∀ j, j < k + 1 → gI xs j = gI ys j) := fun h j hj => by
          rcases Nat.lt_or_ge j k with h1 | h1
          · exact HK.out j h1
          · obtain rfl : j = k := by omega
            exact h
        obtain ⟨x, hxe⟩ : ∃ x, x = gI xs k := ⟨_, rfl⟩
        obtain ⟨y, hye⟩ : ∃ y, y = gI ys k := ⟨_, rfl⟩
        rw [← hxe] at q1 q2 HS HG
        rw [← hye] at q3 q4 HS HG
        clear hxe hye hcell hcell2 HK
        obtain ⟨o1, x1⟩ := x
        obtain ⟨o2, x2⟩ := y
        dsimp only at q1 q2 q3 q4
        have u1 := stI
        have u2 := utI
        have u3 := gdI
        have hq := neqI ⟨o1, x1⟩ ⟨o2, x2⟩
        dsimp only at hq
        by_cases he : (⟨o1, x1⟩ : Ins) = ⟨o2, x2⟩
        · rw [decide_eq_true he] at hq
          have HG' := Lib.hid (HG.out he)
          clear HS HG
          go_wp2_with fail
          go_quiet (fail)
          go_wp2_with fail
          go_roundw
          case rel => exact ⟨k + 1, by omega, by go_num, HG'.out, ⟨_, rfl⟩⟩
          case measure => simp [intOf]; omega
        · rw [decide_eq_false he] at hq
          have Z := Lib.hid (HS.out he)
          clear HS HG
          go_wp2_with fail
          go_quiet (fail)
          go_wp2_with fail
          go_ret
          exact ⟨ret_bool Z.out.symm, Drawn.step ⟨u, rfl⟩ _⟩
      · have e1 : decide ((k : Int) < (n : Int)) = false := by simp; omega
        have e1' : decide (k < n) = false := by simp; omega
        have Z : Hid (decide (xs = ys) = true) := decide_eq_true (list_ext_gI (by rw [Hn.out, Hm.out]) (fun j hj => HK.out j (by rw [Hn.out] at hj; omega)))
        go_wp2_with fail
        go_ret
        exact ⟨ret_bool Z.out.symm, ⟨_, rfl⟩⟩
  · have f1 : ((n : Int) != (n' : Int)) = true := by simp; omega
    have f1' : (n != n') = true := by simp; omega
    have Z : Hid (decide (xs = ys) = false) := decide_eq_false (fun e => hl (by rw [← Hn.out, ← Hm.out, e]))
    go_enter Tryz.func21, Tryz.ntmps21
    go_wp2_with fail
    go_ret
    exact ⟨ret_bool Z.out.symm, Drawn.refl _⟩

def sameB (p q : Prg) : Bool := decide (p.arrs = q.arrs) && decide (p.locs = q.locs) && decide (p.code = q.code)
theorem sameB_iff {p q : Prg} : sameB p q = true ↔ p = q := by
  unfold sameB
  obtain ⟨a, l, c⟩ := p
  obtain ⟨a', l', c'⟩ := q
  simp [and_assoc]
def RetB (w : World) (b : Bool) (e : Ending) (w' : World) : Prop := e = .returned (.bool b) ∧ Below w.heap.size w w'

set_option maxRecDepth 100000 in
set_option maxHeartbeats 2000000 in
theorem same_any (A A' : Option Addr) (n c n' c' : Nat) (L : Int) (D D' : Option Addr) (m d m' d' : Nat) (M : Int) (p q : Prg) (w : World) (hx : Progs w A n c L A' n' c' p) (hy : Progs w D m d M D' m' d' q) (h1 : n ≤ 100000) (h2 : m ≤ 100000) (hn : n' ≤ 100000) (hm : m' ≤ 100000) :
    Calls Tryz.prog 9 #[.agg #[.slice A n c, .int .i64 L, .slice A' n' c'], .agg #[.slice D m d, .int .i64 M, .slice D' m' d']] w (RetB w (sameB p q)) := by
  obtain ⟨g0, r1, r2⟩ := two_alloc w #[.slice A n c, .int .i64 L, .slice A' n' c'] #[.slice D m d, .int .i64 M, .slice D' m' d'] 25 25
  obtain ⟨w0, hw0⟩ : ∃ w0, w0 = (w.alloc (.cells #[.slice A n c, .int .i64 L, .slice A' n' c'] 25)).alloc (.cells #[.slice D m d, .int .i64 M, .slice D' m' d'] 25) := ⟨_, rfl⟩
  rw [← hw0] at g0 r1 r2
  obtain ⟨p0, p1, p2⟩ := three_cells r1
  obtain ⟨t0, t1, t2⟩ := three_cells r2
  have hx0 := hx.below g0
  have hy0 := hy.below g0
  have H1 := Lib.hid (eqArr_any A D n c m d p.arrs q.arrs w0 hx0.arrs hy0.arrs h1 h2)
  have H2 := Lib.hid (fun q' => eqIns_any A' D' n' c' m' d' p.code q.code (w0.drewN q') (hx0.code.drewN q') (hy0.code.drewN q') hn hm)
  have hS : Hid (sameB p q = (decide (p.arrs = q.arrs) && decide (p.locs = q.locs) && decide (p.code = q.code))) := rfl
  rw [← hx.locs, ← hy.locs] at hS
  obtain ⟨bA, hbA⟩ : ∃ b, b = decide (p.arrs = q.arrs) := ⟨_, rfl⟩
  obtain ⟨bC, hbC⟩ : ∃ b, b = decide (p.code = q.code) := ⟨_, rfl⟩
  rw [← hbA] at hS H1
  rw [← hbC] at hS H2
  clear hbA hbC
  have Hw0 := Lib.hid hw0
  clear hw0
  go_enter Tryz.func9, Tryz.ntmps9
  go_upto_region 1 with (fail)
  rw [← Hw0.out]
  clear Hw0
  cases bA with
  | false =>
    go_wp2_with fail
    refine H1.out.mono ?_
    rintro e w1 ⟨rfl, u, rfl⟩
    go_wp2_with fail
    go_ret
    exact ⟨ret_bool (by rw [hS.out]; simp), bdrew g0 _⟩
  | true =>
    by_cases hl : L = M
    · have d1 : (L == M) = true := by simpa using hl
      have d1' : decide (L = M) = true := by simpa using hl
      rw [d1'] at hS
      subst hl
      go_wp2_with fail
      refine H1.out.mono ?_
      rintro e w1 ⟨rfl, u, rfl⟩
      go_wp2_with fail
      refine (H2.out u).mono ?_
      rintro e w2 ⟨rfl, u2, rfl⟩
      go_wp2_with fail
      go_ret
      exact ⟨ret_bool (by rw [hS.out]; cases bC <;> rfl), bdrew g0 _⟩
    · have d1 : (L == M) = false := by simpa using hl
      have d1' : decide (L = M) = false := by simpa using hl
      rw [d1'] at hS
      go_wp2_with fail
      refine H1.out.mono ?_
      rintro e w1 ⟨rfl, u, rfl⟩
      go_wp2_with fail
      go_ret
      exact ⟨ret_bool (by rw [hS.out]; cases bC <;> rfl), bdrew g0 _⟩

def fewB (n n' : Nat) : Bool := decide (n ≤ 20) && decide (n' ≤ 300)
theorem few_any (A A' : Option Addr) (n c n' c' : Nat) (L : Int) (w : World) : Calls Tryz.prog 5 #[.agg #[.slice A n c, .int .i64 L, .slice A' n' c']] w (RetB w (fewB n n')) := by
  have g0 : Below w.heap.size w (w.alloc (.cells #[.slice A n c, .int .i64 L, .slice A' n' c'] 25)) := balloc (Below.refl _ _) _
  have hF : Hid (fewB n n' = (decide (n ≤ 20) && decide (n' ≤ 300))) := rfl
  by_cases h1 : n ≤ 20
  · have d1 : decide (n ≤ 20) = true := by simpa using h1
    have d1' : decide ((n : Int) ≤ 20) = true := by simp; omega
    rw [d1] at hF
    go_enter Tryz.func5, Tryz.ntmps5
    go_wp2_with fail
    go_ret
    exact ⟨ret_bool (by rw [hF.out]; simp; omega), g0⟩
  · have d1 : decide (n ≤ 20) = false := by simpa using h1
    have d1' : decide ((n : Int) ≤ 20) = false := by simp; omega
    rw [d1] at hF
    go_enter Tryz.func5, Tryz.ntmps5
    go_wp2_with fail
    go_ret
    exact ⟨ret_bool (by rw [hF.out]; simp), g0⟩

set_option maxRecDepth 100000 in
set_option maxHeartbeats 2000000 in
theorem sameR_any (A A' : Option Addr) (n c n' c' : Nat) (L : Int) (D D' : Option Addr) (m d m' d' : Nat) (M : Int) (p q : Prg) (w : World) (hx : Progs w A n c L A' n' c' p) (hy : Progs w D m d M D' m' d' q) (h1 : n ≤ 100000) (h2 : m ≤ 100000) (hn : n' ≤ 100000) (hm : m' ≤ 100000) :
    Calls Tryz.prog 10 #[.agg #[.slice A n c, .int .i64 L, .slice A' n' c'], .agg #[.slice D m d, .int .i64 M, .slice D' m' d']] w (RetB w (sameB p q)) := by
  have Hn := Lib.hid hx.arrs.1
  have Hm := Lib.hid hy.arrs.1
  have HL := Lib.hid hx.locs
  have HM := Lib.hid hy.locs
  obtain ⟨g0, r1, r2⟩ := two_alloc w #[.slice A n c, .int .i64 L, .slice A' n' c'] #[.slice D m d, .int .i64 M, .slice D' m' d'] 25 25
  obtain ⟨w0, hw0⟩ : ∃ w0, w0 = (w.alloc (.cells #[.slice A n c, .int .i64 L, .slice A' n' c'] 25)).alloc (.cells #[.slice D m d, .int .i64 M, .slice D' m' d'] 25) := ⟨_, rfl⟩
  rw [← hw0] at g0 r1 r2
  obtain ⟨p0, p1, p2⟩ := three_cells r1
  obtain ⟨t0, t1, t2⟩ := three_cells r2
  have hx0 := hx.below g0
  have hy0 := hy.below g0
  have H2 := Lib.hid (fun u => differR_any A A' n c n' c' L D D' m d m' d' M p q (w0.drewN u) (hx0.below ((Drawn.drewN w0 u).below _)) (hy0.below ((Drawn.drewN w0 u).below _)) hn hm)
  have hS : Hid (sameB p q = (decide (p.arrs = q.arrs) && decide (p.locs = q.locs) && decide (p.code = q.code))) := rfl
  have Hw0 := Lib.hid hw0
  clear hw0
  go_enter Tryz.func10, Tryz.ntmps10
  go_upto_region 1 with (fail)
  rw [← Hw0.out]
  clear Hw0
  by_cases hl : n = m
  · subst hl
    by_cases hL : L = M
    · subst hL
      have hS2 : Hid (sameB p q = (decide (p.arrs = q.arrs) && decide (p.code = q.code))) := by
        show _ = _
        rw [hS.out, ← HL.out, ← HM.out]; simp
      clear hS
      have hd : (L != L) = false := by simp
      go_wp2_with fail
      go_loopw [5] (fun i wr => ∃ k : Nat, k ≤ n ∧ i = .int .i64 (k : Int) ∧ Hid (∀ j, j < k → gA p.arrs j = gA q.arrs j) ∧ Drawn w0 wr) (fun i _ => n - (intOf i).toNat)
      case atStart => exact ⟨0, Nat.zero_le _, rfl, fun j hj => absurd hj (by omega), Drawn.refl _⟩
      case round =>
        obtain ⟨k, hk, rfl, HK, u, rfl⟩ := hrel
        by_cases hlt : k < n
        · have e1 : decide ((k : Int) < (n : Int)) = true := by simp; omega
          have e1' : decide (k < n) = true := by simp; omega
          obtain ⟨b, off, rfl, hbl, hcell⟩ := hx0.arrs.get hlt
          obtain ⟨b2, off2, rfl, hbl2, hcell2⟩ := hy0.arrs.get hlt
          obtain ⟨q1, q2⟩ := hcell k hlt
          obtain ⟨q3, q4⟩ := hcell2 k hlt
          have HS : Hid (gA p.arrs k ≠ gA q.arrs k → decide (p.arrs = q.arrs) = false) := fun h => decide_eq_false (fun e => h (by rw [e]))
          have HG : Hid (gA p.arrs k = gA q.arrs k → ∀ j, j < k + 1 → gA p.arrs j = gA q.arrs j) := fun h j hj => by
            rcases Nat.lt_or_ge j k with h1 | h1
            · exact HK.out j h1
            · obtain rfl : j = k := by omega
              exact h
          obtain ⟨x, hxe⟩ : ∃ x, x = gA p.arrs k := ⟨_, rfl⟩
          obtain ⟨y, hye⟩ : ∃ y, y = gA q.arrs k := ⟨_, rfl⟩
          rw [← hxe] at q1 q2 HS HG
          rw [← hye] at q3 q4 HS HG
          clear hxe hye hcell hcell2 HK
          obtain ⟨o1, x1⟩ := x
          obtain ⟨o2, x2⟩ := y
          dsimp only at q1 q2 q3 q4
          have u1 := stA
          have u2 := utA
          have u3 := gdA
          have hq := neqA ⟨o1, x1⟩ ⟨o2, x2⟩
          dsimp only at hq
          by_cases he : (⟨o1, x1⟩ : Arr) = ⟨o2, x2⟩
          · rw [decide_eq_true he] at hq
            have HG' := Lib.hid (HG.out he)
            clear HS HG
            go_wp2_with fail
            go_quiet (fail)
            go_wp2_with fail
            go_roundw
            case rel => exact ⟨k + 1, by omega, by go_num, HG'.out, ⟨_, rfl⟩⟩
            case measure => simp [intOf]; omega
          · rw [decide_eq_false he] at hq
            have Z := Lib.hid (HS.out he)
            clear HS HG
            go_wp2_with fail
            go_quiet (fail)
            go_wp2_with fail
            go_ret
            exact ⟨ret_bool (by rw [hS2.out, Z.out]; rfl), bdrew (bdrew g0 _) _⟩
        · have e1 : decide ((k : Int) < (n : Int)) = false := by simp; omega
          have e1' : decide (k < n) = false := by simp; omega
          have Z : Hid (decide (p.arrs = q.arrs) = true) := decide_eq_true (list_ext_gA (by rw [Hn.out, Hm.out]) (fun j hj => HK.out j (by rw [Hn.out] at hj; omega)))
          go_wp2_with fail
          refine (H2.out u).mono ?_
          rintro e w2 ⟨rfl, hb2⟩
          go_wp2_with fail
          go_ret
          exact ⟨ret_bool (by rw [hS2.out, Z.out]; simp), (bdrew g0 u).trans (hb2.mono (bdrew g0 u).size)⟩
    · have hS2 : Hid (sameB p q = false) := by
        show _ = _
        rw [hS.out, ← HL.out, ← HM.out, decide_eq_false hL]; simp
      have d1 : (L != M) = true := by simpa using hL
      clear hS
      go_wp2_with fail
      go_ret
      exact ⟨ret_bool hS2.out.symm, g0⟩
  · have hS2 : Hid (sameB p q = false) := by
      show _ = _
      rw [hS.out, decide_eq_false (fun e => hl (by rw [← Hn.out, ← Hm.out, e]))]; rfl
    have f1 : ((n : Int) != (m : Int)) = true := by simp; omega
    have f1' : (n != m) = true := by simp; omega
    clear hS
    go_wp2_with fail
    go_ret
    exact ⟨ret_bool hS2.out.symm, g0⟩
end Go.Proofs.YtmijalhilalaoaaGreatDoor
