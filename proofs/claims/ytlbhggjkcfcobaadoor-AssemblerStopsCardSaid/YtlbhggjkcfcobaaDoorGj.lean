/- The reference of layer 15: SameArrays, Same; of layer 16: SameNames. -/
import Derived.Test.YtlbhggjkcfcobaaDoorGi
namespace Go.Proofs.YtlbhggjkcfcobaaDoor
open Go.RowKit Go.Proofs
set_option linter.unusedVariables false

theorem stIn : Tryd.prog.stoodInHeld 57 = false := by kernel_rfl
theorem utIn : Tryd.prog.underlying 57 = some (.struct (Tryd.prog.fieldsOf 57)) := by kernel_rfl
theorem gdIn : Tryd.prog.eqGuardType Tryd.prog.depth 57 = false := by kernel_rfl
theorem stAr : Tryd.prog.stoodInHeld 47 = false := by kernel_rfl
theorem utAr : Tryd.prog.underlying 47 = some (.struct (Tryd.prog.fieldsOf 47)) := by kernel_rfl
theorem gdAr : Tryd.prog.eqGuardType Tryd.prog.depth 47 = false := by kernel_rfl
theorem neqIn (a b : Ins) (W : World) : (binOp .neq 57 (.agg #[.int .i64 a.op, .int .u32 a.arg]) (.agg #[.int .i64 b.op, .int .u32 b.arg])).run Tryd.prog W = .ok (.bool (!decide (a = b))) W := by
  obtain ⟨o1, x1⟩ := a
  obtain ⟨o2, x2⟩ := b
  rw [run_neq_struct, run_equalIn_agg W 9999 _ _ _ utIn stIn]
  by_cases h1 : o1 = o2
  · by_cases h2 : x1 = x2
    · subst h1 h2; simp [go_sem, part]
    · subst h1; simp [go_sem, part, h2]
  · simp [go_sem, part, h1]
theorem neqAr (a b : Arr) (W : World) : (binOp .neq 47 (.agg #[.bool a.word, .int .i64 a.size]) (.agg #[.bool b.word, .int .i64 b.size])).run Tryd.prog W = .ok (.bool (!decide (a = b))) W := by
  obtain ⟨o1, x1⟩ := a
  obtain ⟨o2, x2⟩ := b
  rw [run_neq_struct, run_equalIn_agg W 9999 _ _ _ utAr stAr]
  by_cases h1 : o1 = o2
  · by_cases h2 : x1 = x2
    · subst h1 h2; simp [go_sem, part]
    · subst h1; simp [go_sem, part, h2]
  · simp [go_sem, part, h1]
theorem ext_gA {l m : List Arr} (hl : l.length = m.length) (h : ∀ k, k < l.length → gA l k = gA m k) : l = m := by
  apply List.ext_getElem hl
  intro i h1 h2
  have := h i h1
  rwa [gA_get h1, gA_get h2] at this
theorem ext_gI {l m : List Ins} (hl : l.length = m.length) (h : ∀ k, k < l.length → gI l k = gI m k) : l = m := by
  apply List.ext_getElem hl
  intro i h1 h2
  have := h i h1
  rwa [gI_get h1, gI_get h2] at this
set_option maxRecDepth 100000 in
set_option maxHeartbeats 2000000 in
theorem sameArr_any (A D : Option Addr) (n c m d : Nat) (l q : List Arr) (w : World) (hx : Arrs w A n c l) (hy : Arrs w D m d q) (h1 : n ≤ 100000) :
    Calls Tryd.prog 30 #[.slice A n c, .slice D m d] w fun e w' => e = .returned (.bool (decide (l = q))) ∧ Drawn w w' := by
  have Hn := Lib.hid hx.1
  have Hm := Lib.hid hy.1
  obtain ⟨bb, hbb⟩ : ∃ bb, bb = decide (l = q) := ⟨_, rfl⟩
  rw [← hbb]
  have HBB := Lib.hid hbb
  clear hbb
  by_cases hl : n = m
  · subst hl
    go_enter Tryd.func30, Tryd.ntmps30
    go_wp2_with fail
    go_loopw [5] (fun i wr => ∃ k : Nat, k ≤ n ∧ i = .int .i64 (k : Int) ∧ Hid (∀ j, j < k → gA l j = gA q j) ∧ Drawn w wr) (fun i _ => n - (intOf i).toNat)
    case atStart => exact ⟨0, Nat.zero_le _, rfl, fun j hj => absurd hj (by omega), Drawn.refl _⟩
    case round =>
      obtain ⟨k, hk, rfl, HK, u, rfl⟩ := hrel
      by_cases hlt : k < n
      · have e1 : decide ((k : Int) < (n : Int)) = true := by simp; omega
        have e1' : decide (k < n) = true := by simp; omega
        obtain ⟨b, off, rfl, hbl, hcell⟩ := hx.get hlt
        obtain ⟨b2, off2, rfl, hbl2, hcell2⟩ := hy.get hlt
        obtain ⟨q1, q2⟩ := hcell k hlt
        obtain ⟨q3, q4⟩ := hcell2 k hlt
        have HS : Hid (gA l k ≠ gA q k → bb = false) := fun h => by rw [HBB.out]; exact decide_eq_false (fun e => h (by rw [e]))
        have HG : Hid (gA l k = gA q k → ∀ j, j < k + 1 → gA l j = gA q j) := fun h j hj => by
          rcases Nat.lt_or_ge j k with h1 | h1
          · exact HK.out j h1
          · obtain rfl : j = k := by omega
            exact h
        obtain ⟨x, hxe⟩ : ∃ x, x = gA l k := ⟨_, rfl⟩
        obtain ⟨y, hye⟩ : ∃ y, y = gA q k := ⟨_, rfl⟩
        rw [← hxe] at q1 q2 HS HG
        rw [← hye] at q3 q4 HS HG
        clear hxe hye hcell hcell2 HK
        obtain ⟨o1, x1⟩ := x
        obtain ⟨o2, x2⟩ := y
        dsimp only at q1 q2 q3 q4
        have u1 := stAr
        have u2 := utAr
        have u3 := gdAr
        have hq := neqAr ⟨o1, x1⟩ ⟨o2, x2⟩
        dsimp only at hq
        by_cases he : (⟨o1, x1⟩ : Arr) = ⟨o2, x2⟩
        · rw [decide_eq_true he] at hq
          have HG' := Lib.hid (HG.out he)
          clear HS HG
          go_wp2_with fail
          go_quiet (fail)
          go_wp2_with fail
          go_roundw
          case rel => exact ⟨k + 1, by omega, by go_num, HG'.out, ⟨_, rfl⟩⟩
          case measure => simp [intOf]; omega
        · rw [decide_eq_false he] at hq
          have Z := Lib.hid (HS.out he)
          clear HS HG
          go_wp2_with fail
          go_quiet (fail)
          go_wp2_with fail
          go_ret
          exact ⟨ret_bool Z.out.symm, (Drawn.drewN w u).step _⟩
      · have e1 : decide ((k : Int) < (n : Int)) = false := by simp; omega
        have e1' : decide (k < n) = false := by simp; omega
        have Z : Hid (bb = true) := by
          show _ = _
          rw [HBB.out]
          exact decide_eq_true (ext_gA (by rw [Hn.out, Hm.out]) (fun j hj => HK.out j (by rw [Hn.out] at hj; omega)))
        go_wp2_with fail
        go_ret
        exact ⟨ret_bool Z.out.symm, ⟨_, rfl⟩⟩
  · have hd : ((n : Int) != (m : Int)) = true := by simp; omega
    have Z : Hid (bb = false) := by
      show _ = _
      rw [HBB.out]
      exact decide_eq_false (fun e => hl (by rw [← Hn.out, ← Hm.out, e]))
    go_enter Tryd.func30, Tryd.ntmps30
    go_wp2_with fail
    go_ret
    exact ⟨ret_bool Z.out.symm, Drawn.refl _⟩
def sameP (p q : Prg) : Bool := decide (p.arrs = q.arrs) && decide (p.locs = q.locs) && decide (p.code = q.code)
set_option maxRecDepth 100000 in
set_option maxHeartbeats 2000000 in
theorem same15_any (A A' : Option Addr) (n c n' c' : Nat) (L : Int) (D D' : Option Addr) (m d m' d' : Nat) (M : Int) (p q : Prg) (w : World) (hx : Progs w A n c L A' n' c' p) (hy : Progs w D m d M D' m' d' q) (h1 : n ≤ 100000) (hn : n' ≤ 100000) :
    Calls Tryd.prog 14 #[.agg #[.slice A n c, .int .i64 L, .slice A' n' c'], .agg #[.slice D m d, .int .i64 M, .slice D' m' d']] w fun e w' => e = .returned (.bool (sameP p q)) ∧ Below w.heap.size w w' := by
  have Hn := Lib.hid hx.code.1
  have Hm := Lib.hid hy.code.1
  have HL := Lib.hid hx.locs
  have HM := Lib.hid hy.locs
  have b1 := balloc (Below.refl w.heap.size w) (.cells #[.slice A n c, .int .i64 L, .slice A' n' c'] 27)
  have g0 := balloc b1 (.cells #[.slice D m d, .int .i64 M, .slice D' m' d'] 27)
  have r1' := rowV.new w 27 #[.slice A n c, .int .i64 L, .slice A' n' c']
  have r1 := r1'.below (balloc (Below.refl _ _) (.cells #[.slice D m d, .int .i64 M, .slice D' m' d'] 27)) r1'.lt
  have r2 := rowV.new (w.alloc (.cells #[.slice A n c, .int .i64 L, .slice A' n' c'] 27)) 27 #[.slice D m d, .int .i64 M, .slice D' m' d']
  have es : (w.alloc (.cells #[.slice A n c, .int .i64 L, .slice A' n' c'] 27)).heap.size = w.heap.size + 1 := by simp
  rw [es] at r2
  obtain ⟨w0, hw0⟩ : ∃ w0, w0 = (w.alloc (.cells #[.slice A n c, .int .i64 L, .slice A' n' c'] 27)).alloc (.cells #[.slice D m d, .int .i64 M, .slice D' m' d'] 27) := ⟨_, rfl⟩
  rw [← hw0] at g0 r1 r2
  have hx0 := hx.below g0
  have hy0 := hy.below g0
  have HA := Lib.hid (sameArr_any A D n c m d p.arrs q.arrs w0 hx0.arrs hy0.arrs h1)
  obtain ⟨bb, hbb⟩ : ∃ bb, bb = sameP p q := ⟨_, rfl⟩
  rw [← hbb]
  have HBB : Hid (bb = (decide (p.arrs = q.arrs) && decide (p.locs = q.locs) && decide (p.code = q.code))) := hbb
  clear hbb es r1' b1
  obtain ⟨ba, hba⟩ : ∃ ba, ba = decide (p.arrs = q.arrs) := ⟨_, rfl⟩
  rw [← hba] at HA HBB
  clear hba
  by_cases hL : L = M
  · subst hL
    have hLp : Hid (decide (p.locs = q.locs) = true) := decide_eq_true (by rw [← HL.out, ← HM.out])
    have hd : (L != L) = false := by simp
    cases ba with
    | false =>
      have Z : Hid (bb = false) := by show _ = _; rw [HBB.out]; simp
      have HW := Lib.hid hw0
      clear hx0 hy0 hx hy hw0
      go_enter Tryd.func14, Tryd.ntmps14
      go_wp2_with fail
      rw [← HW.out]
      refine HA.out.mono ?_
      rintro e w1 ⟨rfl, u, rfl⟩
      go_wp2_with fail
      go_ret
      exact ⟨ret_bool Z.out.symm, bdrew g0 u⟩
    | true =>
      by_cases hl : n' = m'
      · subst hl
        have HW := Lib.hid hw0
        have hxc := hx0.code
        have hyc := hy0.code
        clear hx0 hy0 hx hy hw0
        go_enter Tryd.func14, Tryd.ntmps14
        go_wp2_with fail
        rw [← HW.out]
        refine HA.out.mono ?_
        rintro e w1 ⟨rfl, u0, rfl⟩
        obtain ⟨p0, p1, p2⟩ := three_cellsV r1
        obtain ⟨t0, t1, t2⟩ := three_cellsV r2
        go_wp2_with fail
        go_loopw [5] (fun i wr => ∃ k : Nat, k ≤ n' ∧ i = .int .i64 (k : Int) ∧ Hid (∀ j, j < k → gI p.code j = gI q.code j) ∧ Drawn w0 wr) (fun i _ => n' - (intOf i).toNat)
        case atStart => exact ⟨0, Nat.zero_le _, rfl, fun j hj => absurd hj (by omega), ⟨_, rfl⟩⟩
        case round =>
          obtain ⟨k, hk, rfl, HK, u, rfl⟩ := hrel
          by_cases hlt : k < n'
          · have e1 : decide ((k : Int) < (n' : Int)) = true := by simp; omega
            have e1' : decide (k < n') = true := by simp; omega
            obtain ⟨b, off, rfl, hbl, hcell⟩ := hxc.get hlt
            obtain ⟨b2, off2, rfl, hbl2, hcell2⟩ := hyc.get hlt
            obtain ⟨q1, q2⟩ := hcell k hlt
            obtain ⟨q3, q4⟩ := hcell2 k hlt
            have HS : Hid (gI p.code k ≠ gI q.code k → bb = false) := fun h => by rw [HBB.out, decide_eq_false (fun e : p.code = q.code => h (by rw [e]))]; simp
            have HG : Hid (gI p.code k = gI q.code k → ∀ j, j < k + 1 → gI p.code j = gI q.code j) := fun h j hj => by
              rcases Nat.lt_or_ge j k with h1 | h1
              · exact HK.out j h1
              · obtain rfl : j = k := by omega
                exact h
            obtain ⟨x, hxe⟩ : ∃ x, x = gI p.code k := ⟨_, rfl⟩
            obtain ⟨y, hye⟩ : ∃ y, y = gI q.code k := ⟨_, rfl⟩
            rw [← hxe] at q1 q2 HS HG
            rw [← hye] at q3 q4 HS HG
            clear hxe hye hcell hcell2 HK
            obtain ⟨o1, x1⟩ := x
            obtain ⟨o2, x2⟩ := y
            dsimp only at q1 q2 q3 q4
            have u1 := stIn
            have u2 := utIn
            have u3 := gdIn
            have hq := neqIn ⟨o1, x1⟩ ⟨o2, x2⟩
            dsimp only at hq
            by_cases he : (⟨o1, x1⟩ : Ins) = ⟨o2, x2⟩
            · rw [decide_eq_true he] at hq
              have HG' := Lib.hid (HG.out he)
              clear HS HG
              go_wp2_with fail
              go_quiet (fail)
              go_wp2_with fail
              go_roundw
              case rel => exact ⟨k + 1, by omega, by go_num, HG'.out, ⟨_, rfl⟩⟩
              case measure => simp [intOf]; omega
            · rw [decide_eq_false he] at hq
              have Z := Lib.hid (HS.out he)
              clear HS HG
              go_wp2_with fail
              go_quiet (fail)
              go_wp2_with fail
              go_ret
              exact ⟨ret_bool Z.out.symm, bdrew (bdrew g0 _) _⟩
          · have e1 : decide ((k : Int) < (n' : Int)) = false := by simp; omega
            have e1' : decide (k < n') = false := by simp; omega
            have Z : Hid (bb = true) := by
              show _ = _
              rw [HBB.out, hLp.out, decide_eq_true (ext_gI (by rw [Hn.out, Hm.out]) (fun j hj => HK.out j (by rw [Hn.out] at hj; omega)))]; rfl
            go_wp2_with fail
            go_ret
            exact ⟨ret_bool Z.out.symm, bdrew g0 _⟩
      · have hd2 : ((n' : Int) != (m' : Int)) = true := by simp; omega
        have Z : Hid (bb = false) := by
          show _ = _
          rw [HBB.out, decide_eq_false (fun e : p.code = q.code => hl (by rw [← Hn.out, ← Hm.out, e]))]; simp
        have HW := Lib.hid hw0
        clear hx0 hy0 hx hy hw0
        go_enter Tryd.func14, Tryd.ntmps14
        go_wp2_with fail
        rw [← HW.out]
        refine HA.out.mono ?_
        rintro e w1 ⟨rfl, u, rfl⟩
        obtain ⟨p0, p1, p2⟩ := three_cellsV r1
        obtain ⟨t0, t1, t2⟩ := three_cellsV r2
        go_wp2_with fail
        go_ret
        exact ⟨ret_bool Z.out.symm, bdrew g0 u⟩
  · have hd : (L != M) = true := by simpa using hL
    have Z : Hid (bb = false) := by
      show _ = _
      rw [HBB.out, decide_eq_false (fun e : p.locs = q.locs => hL (by rw [HL.out, HM.out, e]))]; simp
    have HW := Lib.hid hw0
    clear hx0 hy0 hx hy hw0
    go_enter Tryd.func14, Tryd.ntmps14
    go_wp2_with fail
    go_ret
    refine ⟨ret_bool Z.out.symm, ?_⟩
    first | exact g0 | (rw [← HW.out]; exact g0)
/-- a list of strings that lies in memory. -/
def StrsM (w : World) (A : Option Addr) (n c : Nat) (l : List (List UInt8)) : Prop := l.length = n ∧ n ≤ c ∧ Cells w A n (fun i => .string (strB (l.getD i [])))
theorem StrsM.below {w w' : World} {A : Option Addr} {n c : Nat} {l : List (List UInt8)} (h : StrsM w A n c l) (hb : Below w.heap.size w w') : StrsM w' A n c l := ⟨h.1, h.2.1, h.2.2.below hb⟩
theorem OwnS.toStrs {w : World} {B : Nat} {A : Option Addr} {n c : Nat} {l : List (List UInt8)} (h : OwnS encSt 1 w B 9 A n c l) : StrsM w A n c l := by
  refine ⟨h.length (fun _ => rfl) (by decide), h.cap, fun hn => ?_⟩
  obtain ⟨b, hA, _, hlt, hc⟩ := h.get (fun _ => rfl) (by decide) ([] : List UInt8) hn
  refine ⟨b, 0, hA, hlt, fun i hi => ?_⟩
  have := hc i 0 (.string (strB (l.getD i []))) hi rfl
  simpa using this
set_option maxRecDepth 100000 in
set_option maxHeartbeats 2000000 in
theorem sameNames_any (A D : Option Addr) (n c m d : Nat) (l q : List (List UInt8)) (w : World) (hx : StrsM w A n c l) (hy : StrsM w D m d q) (h1 : n ≤ 100000) :
    Calls Tryd.prog 17 #[.slice A n c, .slice D m d] w fun e w' => e = .returned (.bool (decide (l = q))) ∧ Drawn w w' := by
  have Hn := Lib.hid hx.1
  have Hm := Lib.hid hy.1
  obtain ⟨bb, hbb⟩ : ∃ bb, bb = decide (l = q) := ⟨_, rfl⟩
  rw [← hbb]
  have HBB := Lib.hid hbb
  clear hbb
  by_cases hl : n = m
  · subst hl
    go_enter Tryd.func17, Tryd.ntmps17
    go_wp2_with fail
    go_loopw [5] (fun i wr => ∃ k : Nat, k ≤ n ∧ i = .int .i64 (k : Int) ∧ Hid (∀ j, j < k → l.getD j [] = q.getD j []) ∧ Drawn w wr) (fun i _ => n - (intOf i).toNat)
    case atStart => exact ⟨0, Nat.zero_le _, rfl, fun j hj => absurd hj (by omega), Drawn.refl _⟩
    case round =>
      obtain ⟨k, hk, rfl, HK, u, rfl⟩ := hrel
      by_cases hlt : k < n
      · have e1 : decide ((k : Int) < (n : Int)) = true := by simp; omega
        have e1' : decide (k < n) = true := by simp; omega
        obtain ⟨b, off, rfl, hbl, hcell⟩ := hx.2.2.get hlt
        obtain ⟨b2, off2, rfl, hbl2, hcell2⟩ := hy.2.2.get hlt
        have q1 := hcell k hlt
        have q3 := hcell2 k hlt
        have HS : Hid (l.getD k [] ≠ q.getD k [] → bb = false) := fun h => by rw [HBB.out]; exact decide_eq_false (fun e => h (by rw [e]))
        have HG : Hid (l.getD k [] = q.getD k [] → ∀ j, j < k + 1 → l.getD j [] = q.getD j []) := fun h j hj => by
          rcases Nat.lt_or_ge j k with h1 | h1
          · exact HK.out j h1
          · obtain rfl : j = k := by omega
            exact h
        obtain ⟨x, hxe⟩ : ∃ x, x = l.getD k [] := ⟨_, rfl⟩
        obtain ⟨y, hye⟩ : ∃ y, y = q.getD k [] := ⟨_, rfl⟩
        rw [← hxe] at q1 HS HG
        rw [← hye] at q3 HS HG
        clear hxe hye hcell hcell2 HK
        have hd := strB_beq x y
        by_cases he : x = y
        · rw [decide_eq_true he] at hd
          have HG' := Lib.hid (HG.out he)
          clear HS HG he
          go_wp2_with fail
          go_quiet (fail)
          go_wp2_with fail
          go_roundw
          case rel => exact ⟨k + 1, by omega, by go_num, HG'.out, ⟨_, rfl⟩⟩
          case measure => simp [intOf]; omega
        · rw [decide_eq_false he] at hd
          have Z := Lib.hid (HS.out he)
          clear HS HG he
          go_wp2_with fail
          go_quiet (fail)
          go_wp2_with fail
          go_ret
          exact ⟨ret_bool Z.out.symm, (Drawn.drewN w u).step _⟩
      · have e1 : decide ((k : Int) < (n : Int)) = false := by simp; omega
        have e1' : decide (k < n) = false := by simp; omega
        have Z : Hid (bb = true) := by
          show _ = _
          rw [HBB.out]
          refine decide_eq_true ?_
          apply List.ext_getElem (by rw [Hn.out, Hm.out])
          intro i h1 h2
          have := HK.out i (by rw [Hn.out] at h1; omega)
          simpa [List.getD_eq_getElem?_getD, List.getElem?_eq_getElem h1, List.getElem?_eq_getElem h2] using this
        go_wp2_with fail
        go_ret
        exact ⟨ret_bool Z.out.symm, ⟨_, rfl⟩⟩
  · have hd : ((n : Int) != (m : Int)) = true := by simp; omega
    have Z : Hid (bb = false) := by
      show _ = _
      rw [HBB.out]
      exact decide_eq_false (fun e => hl (by rw [← Hn.out, ← Hm.out, e]))
    go_enter Tryd.func17, Tryd.ntmps17
    go_wp2_with fail
    go_ret
    exact ⟨ret_bool Z.out.symm, Drawn.refl _⟩
end Go.Proofs.YtlbhggjkcfcobaaDoor
