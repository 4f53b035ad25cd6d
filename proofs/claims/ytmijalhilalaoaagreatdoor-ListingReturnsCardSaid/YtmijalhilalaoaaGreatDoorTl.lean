/- Contracts of layer 17: Differ, Same, and the reference's; Few. -/
import Derived.Test.YtmijalhilalaoaaGreatDoorTk
namespace Go.Proofs.YtmijalhilalaoaaGreatDoor
open Go.RowKit Go.Proofs
set_option linter.unusedVariables false

/-- the length of the common beginning. -/
def cmn : List Ins → List Ins → Nat
  | x :: a, y :: b => if x = y then cmn a b + 1 else 0
  | _, _ => 0
def difN (a b : List Ins) : Int := if a = b then 0 else (cmn a b : Int)
theorem cmn_at : ∀ {k : Nat} {a b : List Ins}, (∀ j, j < k → gI a j = gI b j) → k ≤ a.length → k ≤ b.length → (k = a.length ∨ k = b.length ∨ gI a k ≠ gI b k) → cmn a b = k
  | 0, [], b, _, _, _, _ => by unfold cmn; rfl
  | 0, x :: a, [], _, _, _, _ => by unfold cmn; rfl
  | 0, x :: a, y :: b, _, _, _, h => by
    rcases h with h | h | h
    · simp at h
    · simp at h
    · rw [cmn, if_neg (fun e => h (by simpa [gI] using e))]
  | k + 1, [], b, _, ha, _, _ => by simp at ha
  | k + 1, x :: a, [], _, _, hb, _ => by simp at hb
  | k + 1, x :: a, y :: b, hj, ha, hb, h => by
    have h0 : x = y := by have := hj 0 (by omega); simpa [gI] using this
    rw [cmn, if_pos h0, cmn_at (k := k) (fun j hjk => by have := hj (j + 1) (by omega); simpa [gI] using this) (by simpa using ha) (by simpa using hb) (by
      rcases h with h | h | h
      · exact .inl (by simpa using h)
      · exact .inr (.inl (by simpa using h))
      · exact .inr (.inr (by simpa [gI] using h)))]
theorem difN_stop {k : Nat} {a b : List Ins} (hj : ∀ j, j < k → gI a j = gI b j) (ha : k < a.length) (hb : k < b.length) (h : gI a k ≠ gI b k) : difN a b = (k : Int) ∧ decide (a = b) = false := by
  have hne : a ≠ b := fun e => h (by rw [e])
  exact ⟨by unfold difN; rw [if_neg hne, cmn_at hj (by omega) (by omega) (.inr (.inr h))], by simpa using hne⟩
theorem difN_same {a b : List Ins} (hl : a.length = b.length) (hj : ∀ j, j < a.length → gI a j = gI b j) : difN a b = 0 ∧ decide (a = b) = true := by
  have he : a = b := list_ext_gI hl hj
  exact ⟨by unfold difN; rw [if_pos he], by simpa using he⟩
theorem difN_end {k : Nat} {a b : List Ins} (hl : a.length ≠ b.length) (hk : k = min a.length b.length) (hj : ∀ j, j < k → gI a j = gI b j) : difN a b = (k : Int) ∧ decide (a = b) = false := by
  have hne : a ≠ b := fun e => hl (by rw [e])
  refine ⟨?_, by simpa using hne⟩
  unfold difN
  rw [if_neg hne, cmn_at hj (by omega) (by omega) (by omega)]
theorem stI : Tryz.prog.stoodInHeld 41 = false := by kernel_rfl
theorem utI : Tryz.prog.underlying 41 = some (.struct (Tryz.prog.fieldsOf 41)) := by kernel_rfl
theorem gdI : Tryz.prog.eqGuardType Tryz.prog.depth 41 = false := by kernel_rfl
theorem stA : Tryz.prog.stoodInHeld 61 = false := by kernel_rfl
theorem utA : Tryz.prog.underlying 61 = some (.struct (Tryz.prog.fieldsOf 61)) := by kernel_rfl
theorem gdA : Tryz.prog.eqGuardType Tryz.prog.depth 61 = false := by kernel_rfl
theorem neqI (a b : Ins) (W : World) : (binOp .neq 41 (.agg #[.int .i64 a.op, .int .u32 a.arg]) (.agg #[.int .i64 b.op, .int .u32 b.arg])).run Tryz.prog W = .ok (.bool (!decide (a = b))) W := by
  obtain ⟨o1, x1⟩ := a
  obtain ⟨o2, x2⟩ := b
  rw [run_neq_struct, run_equalIn_agg W 9999 _ _ _ utI stI]
  by_cases h1 : o1 = o2
  · by_cases h2 : x1 = x2
    · subst h1 h2; simp [go_sem, part]
    · subst h1; simp [go_sem, part, h2]
  · simp [go_sem, part, h1]
theorem neqA (a b : Arr) (W : World) : (binOp .neq 61 (.agg #[.bool a.word, .int .i64 a.size]) (.agg #[.bool b.word, .int .i64 b.size])).run Tryz.prog W = .ok (.bool (!decide (a = b))) W := by
  obtain ⟨o1, x1⟩ := a
  obtain ⟨o2, x2⟩ := b
  rw [run_neq_struct, run_equalIn_agg W 9999 _ _ _ utA stA]
  by_cases h1 : o1 = o2
  · by_cases h2 : x1 = x2
    · subst h1 h2; simp [go_sem, part]
    · subst h1; simp [go_sem, part, h2]
  · simp [go_sem, part, h1]
def RetNB (w : World) (x : Int) (b : Bool) (e : Ending) (w' : World) : Prop := e = .returned (.tuple #[.int .i64 x, .bool b]) ∧ Below w.heap.size w w'
theorem ret_nb {w w' : World} {x x' : Int} {b b' : Bool} (hx : x' = x) (hb : b' = b) (hw : Below w.heap.size w w') : RetNB w x' b' (.returned (.tuple #[.int .i64 x, .bool b])) w' := by
  subst hx hb; exact ⟨rfl, hw⟩

set_option maxRecDepth 100000 in
set_option maxHeartbeats 2000000 in
theorem differ_any (A A' : Option Addr) (n c n' c' : Nat) (L : Int) (D D' : Option Addr) (m d m' d' : Nat) (M : Int) (p q : Prg) (w : World) (hx : Progs w A n c L A' n' c' p) (hy : Progs w D m d M D' m' d' q) (hn : n' ≤ 100000) (hm : m' ≤ 100000) :
    Calls Tryz.prog 13 #[.agg #[.slice A n c, .int .i64 L, .slice A' n' c'], .agg #[.slice D m d, .int .i64 M, .slice D' m' d']] w (RetNB w (difN p.code q.code) (!decide (p.code = q.code))) := by
  have HnC := Lib.hid hx.code.1
  have HmC := Lib.hid hy.code.1
  obtain ⟨g0, r1, r2⟩ := two_alloc w #[.slice A n c, .int .i64 L, .slice A' n' c'] #[.slice D m d, .int .i64 M, .slice D' m' d'] 25 25
  obtain ⟨w0, hw0⟩ : ∃ w0, w0 = (w.alloc (.cells #[.slice A n c, .int .i64 L, .slice A' n' c'] 25)).alloc (.cells #[.slice D m d, .int .i64 M, .slice D' m' d'] 25) := ⟨_, rfl⟩
  rw [← hw0] at g0 r1 r2
  obtain ⟨p0, p1, p2⟩ := three_cells r1
  obtain ⟨t0, t1, t2⟩ := three_cells r2
  have hx0 := (hx.below g0).code
  have hy0 := (hy.below g0).code
  have Hw0 := Lib.hid hw0
  clear hw0
  obtain ⟨mn, hmn⟩ : ∃ mn : Nat, mn = min n' m' := ⟨_, rfl⟩
  have hmin : min (n' : Int) (m' : Int) = (mn : Int) := by omega
  have hmin' : min n' m' = mn := hmn.symm
  have Hmn : mn ≤ n' ∧ mn ≤ m' ∧ (mn = n' ∨ mn = m') := by omega
  clear hmn
  go_enter Tryz.func13, Tryz.ntmps13
  go_upto_region 1 with (fail)
  rw [← Hw0.out]
  clear Hw0
  go_wp2_with fail
  clear hmin hmin'
  go_loopw [16] (fun i wr => ∃ k : Nat, k ≤ mn ∧ i = .int .i64 (k : Int) ∧ Hid (∀ j, j < k → gI p.code j = gI q.code j) ∧ Drawn w0 wr) (fun i _ => mn - (intOf i).toNat)
  case atStart => exact ⟨0, Nat.zero_le _, rfl, fun j hj => absurd hj (by omega), Drawn.refl _⟩
  case round =>
    obtain ⟨k, hk, rfl, HK, u, rfl⟩ := hrel
    by_cases hlt : k < mn
    · have e1 : decide ((k : Int) < (mn : Int)) = true := by simp; omega
      have e1' : decide (k < mn) = true := by simp; omega
      have k1 : k < n' := by omega
      have k2 : k < m' := by omega
      obtain ⟨b, off, rfl, hbl, hcell⟩ := hx0.get k1
      obtain ⟨b2, off2, rfl, hbl2, hcell2⟩ := hy0.get k2
      obtain ⟨q1, q2⟩ := hcell k k1
      obtain ⟨q3, q4⟩ := hcell2 k k2
      have HS := Lib.hid (fun h => difN_stop HK.out (by rw [HnC.out]; exact k1) (by rw [HmC.out]; exact k2) h)
      have HG : Hid (gI p.code k = gI q.code k → ∀ j, j < k + 1 → gI p.code j = gI q.code j) := fun h j hj => by
        rcases Nat.lt_or_ge j k with h1 | h1
        · exact HK.out j h1
        · obtain rfl : j = k := by omega
          exact h
      obtain ⟨x, hxe⟩ : ∃ x, x = gI p.code k := ⟨_, rfl⟩
      obtain ⟨y, hye⟩ : ∃ y, y = gI q.code k := ⟨_, rfl⟩
      rw [← hxe] at q1 q2 HS HG
      rw [← hye] at q3 q4 HS HG
      clear hxe hye hcell hcell2 HK
      obtain ⟨o1, x1⟩ := x
      obtain ⟨o2, x2⟩ := y
      dsimp only at q1 q2 q3 q4
      have u1 := stI
      have u2 := utI
      have u3 := gdI
      have hq := neqI ⟨o1, x1⟩ ⟨o2, x2⟩
      dsimp only at hq
      by_cases he : (⟨o1, x1⟩ : Ins) = ⟨o2, x2⟩
      · rw [decide_eq_true he] at hq
        have HG' := Lib.hid (HG.out he)
        clear HS HG
        go_wp2_with fail
        go_quiet (fail)
        go_wp2_with fail
        go_roundw
        case rel => exact ⟨k + 1, by omega, by go_num, HG'.out, ⟨_, rfl⟩⟩
        case measure => simp [intOf]; omega
      · rw [decide_eq_false he] at hq
        obtain ⟨z1, z2⟩ := HS.out he
        have Z1 := Lib.hid z1
        have Z2 := Lib.hid z2
        clear HS HG z1 z2
        go_wp2_with fail
        go_quiet (fail)
        go_wp2_with fail
        go_ret2
        exact ret_nb Z1.out (by rw [Z2.out]; rfl) (bdrew (bdrew g0 _) _)
    · have e1 : decide ((k : Int) < (mn : Int)) = false := by simp; omega
      have e1' : decide (k < mn) = false := by simp; omega
      obtain rfl : mn = k := by omega
      by_cases hl : n' = m'
      · subst hl
        obtain ⟨z1, z2⟩ := difN_same (a := p.code) (b := q.code) (by rw [HnC.out, HmC.out]) (fun j hj => HK.out j (by rw [HnC.out] at hj; omega))
        have Z1 := Lib.hid z1
        have Z2 := Lib.hid z2
        clear z1 z2
        go_wp2_with fail
        go_ret2
        exact ret_nb Z1.out (by rw [Z2.out]; rfl) (bdrew g0 _)
      · obtain ⟨z1, z2⟩ := difN_end (a := p.code) (b := q.code) (k := mn) (by rw [HnC.out, HmC.out]; exact hl) (by rw [HnC.out, HmC.out]; omega) HK.out
        have Z1 := Lib.hid z1
        have Z2 := Lib.hid z2
        have f1 : ((n' : Int) == (m' : Int)) = false := by simp; omega
        have f1' : (n' == m') = false := by simp; omega
        clear z1 z2
        go_wp2_with fail
        go_ret2
        exact ret_nb Z1.out (by rw [Z2.out]; rfl) (bdrew g0 _)

set_option maxRecDepth 100000 in
set_option maxHeartbeats 2000000 in
theorem differR_any (A A' : Option Addr) (n c n' c' : Nat) (L : Int) (D D' : Option Addr) (m d m' d' : Nat) (M : Int) (p q : Prg) (w : World) (hx : Progs w A n c L A' n' c' p) (hy : Progs w D m d M D' m' d' q) (hn : n' ≤ 100000) (hm : m' ≤ 100000) :
    Calls Tryz.prog 22 #[.agg #[.slice A n c, .int .i64 L, .slice A' n' c'], .agg #[.slice D m d, .int .i64 M, .slice D' m' d']] w (RetNB w (difN p.code q.code) (!decide (p.code = q.code))) := by
  have HnC := Lib.hid hx.code.1
  have HmC := Lib.hid hy.code.1
  obtain ⟨g0, r1, r2⟩ := two_alloc w #[.slice A n c, .int .i64 L, .slice A' n' c'] #[.slice D m d, .int .i64 M, .slice D' m' d'] 25 25
  obtain ⟨w0, hw0⟩ : ∃ w0, w0 = (w.alloc (.cells #[.slice A n c, .int .i64 L, .slice A' n' c'] 25)).alloc (.cells #[.slice D m d, .int .i64 M, .slice D' m' d'] 25) := ⟨_, rfl⟩
  rw [← hw0] at g0 r1 r2
  obtain ⟨p0, p1, p2⟩ := three_cells r1
  obtain ⟨t0, t1, t2⟩ := three_cells r2
  have hx0 := (hx.below g0).code
  have hy0 := (hy.below g0).code
  have Hw0 := Lib.hid hw0
  clear hw0
  go_enter Tryz.func22, Tryz.ntmps22
  go_upto_region 1 with (fail)
  rw [← Hw0.out]
  clear Hw0
  go_wp2_with fail
  go_loopw [6] (fun i wr => ∃ k : Nat, k ≤ n' ∧ k ≤ m' ∧ i = .int .i64 (k : Int) ∧ Hid (∀ j, j < k → gI p.code j = gI q.code j) ∧ Drawn w0 wr) (fun i _ => n' - (intOf i).toNat)
  case atStart => exact ⟨0, Nat.zero_le _, Nat.zero_le _, rfl, fun j hj => absurd hj (by omega), Drawn.refl _⟩
  case round =>
    obtain ⟨k, hk, hk', rfl, HK, u, rfl⟩ := hrel
    by_cases hlt : k < n' ∧ k < m'
    · obtain ⟨k1, k2⟩ := hlt
      have e1 : decide ((k : Int) < (n' : Int)) = true := by simp; omega
      have e1' : decide (k < n') = true := by simp; omega
      have e2 : decide ((k : Int) < (m' : Int)) = true := by simp; omega
      have e2' : decide (k < m') = true := by simp; omega
      obtain ⟨b, off, rfl, hbl, hcell⟩ := hx0.get k1
      obtain ⟨b2, off2, rfl, hbl2, hcell2⟩ := hy0.get k2
      obtain ⟨q1, q2⟩ := hcell k k1
      obtain ⟨q3, q4⟩ := hcell2 k k2
      have HS := Lib.hid (fun h => difN_stop HK.out (by rw [HnC.out]; exact k1) (by rw [HmC.out]; exact k2) h)
      have HG : Hid (gI p.code k = gI q.code k → ∀ j, j < k + 1 → gI p.code j = gI q.code j) := fun h j hj => by
        rcases Nat.lt_or_ge j k with h1 | h1
        · exact HK.out j h1
        · obtain rfl : j = k := by omega
          exact h
      obtain ⟨x, hxe⟩ : ∃ x, x = gI p.code k := ⟨_, rfl⟩
      obtain ⟨y, hye⟩ : ∃ y, y = gI q.code k := ⟨_, rfl⟩
      rw [← hxe] at q1 q2 HS HG
      rw [← hye] at q3 q4 HS HG
      clear hxe hye hcell hcell2 HK
      obtain ⟨o1, x1⟩ := x
      obtain ⟨o2, x2⟩ := y
      dsimp only at q1 q2 q3 q4
      have u1 := stI
      have u2 := utI
      have u3 := gdI
      have hq := neqI ⟨o1, x1⟩ ⟨o2, x2⟩
      dsimp only at hq
      by_cases he : (⟨o1, x1⟩ : Ins) = ⟨o2, x2⟩
      · rw [decide_eq_true he] at hq
        have HG' := Lib.hid (HG.out he)
        clear HS HG
        go_wp2_with fail
        go_quiet (fail)
        go_wp2_with fail
        go_roundw
        case rel => exact ⟨k + 1, by omega, by omega, by go_num, HG'.out, ⟨_, rfl⟩⟩
        case measure => simp [intOf]; omega
      · rw [decide_eq_false he] at hq
        obtain ⟨z1, z2⟩ := HS.out he
        have Z1 := Lib.hid z1
        have Z2 := Lib.hid z2
        clear HS HG z1 z2
        go_wp2_with fail
        go_quiet (fail)
        go_wp2_with fail
        go_ret2
        exact ret_nb Z1.out (by rw [Z2.out]; rfl) (bdrew (bdrew g0 _) _)
    · by_cases hl : n' = m'
      · subst hl
        obtain rfl : n' = k := by omega
        obtain ⟨z1, z2⟩ := difN_same (a := p.code) (b := q.code) (by rw [HnC.out, HmC.out]) (fun j hj => HK.out j (by rw [HnC.out] at hj; omega))
        have Z1 := Lib.hid z1
        have Z2 := Lib.hid z2
        clear z1 z2
        go_wp2_with fail
        go_ret2
        exact ret_nb Z1.out (by rw [Z2.out]; rfl) (bdrew g0 _)
      · obtain ⟨z1, z2⟩ := difN_end (a := p.code) (b := q.code) (k := k) (by rw [HnC.out, HmC.out]; exact hl) (by rw [HnC.out, HmC.out]; omega) HK.out
        have Z1 := Lib.hid z1
        have Z2 := Lib.hid z2
        have f1 : ((n' : Int) != (m' : Int)) = true := by simp; omega
        have f1' : (n' != m') = true := by simp; omega
        have hmin : min (n' : Int) (m' : Int) = (k : Int) := by omega
        have hmin' : min n' m' = k := by omega
        clear z1 z2
        by_cases hkn : k < n'
        · have e1 : decide ((k : Int) < (n' : Int)) = true := by simp; omega
          have e1' : decide (k < n') = true := by simp; omega
          have e2 : decide ((k : Int) < (m' : Int)) = false := by simp; omega
          have e2' : decide (k < m') = false := by simp; omega
          go_wp2_with fail
          go_ret2
          exact ret_nb Z1.out (by rw [Z2.out]; rfl) (bdrew g0 _)
        · have e1 : decide ((k : Int) < (n' : Int)) = false := by simp; omega
          have e1' : decide (k < n') = false := by simp; omega
          go_wp2_with fail
          go_ret2
          exact ret_nb Z1.out (by rw [Z2.out]; rfl) (bdrew g0 _)
end Go.Proofs.YtmijalhilalaoaaGreatDoor
