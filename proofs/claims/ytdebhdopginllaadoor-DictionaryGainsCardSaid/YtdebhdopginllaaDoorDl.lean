/- cmp.Compare, cmp.Or; the two closures of Learn. -/
import Derived.Test.YtdebhdopginllaaDoorDk
import Derived.Sort.Walk0
namespace Go.Proofs.YtdebhdopginllaaDoor
open Go.RowKit Go.Proofs
set_option linter.unusedVariables false

def cmpI (x y : Int) : Int := if x < y then -1 else if y < x then 1 else 0
/-- the first number that is not 0. -/
def orI : List Int → Int
  | [] => 0
  | z :: zs => if z = 0 then orI zs else z

set_option maxHeartbeats 400000 in
theorem compareI_any (x y : Int) (w : World) : Calls Tryd.prog 25 #[.int .i64 x, .int .i64 y] w fun e w' => e = .returned (.int .i64 (cmpI x y)) ∧ w' = w := by
  have n1 : (x != x) = false := by simp
  have n2 : (y != y) = false := by simp
  by_cases h1 : x < y
  · have hf : Hid (cmpI x y = -1) := by show _ = _; unfold cmpI; rw [if_pos h1]
    have d1 : decide (x < y) = true := by simpa using h1
    go_enter Tryd.func25, Tryd.ntmps25
    go_wp2
    go_ret
    exact ⟨ret_int hf.out.symm, rfl⟩
  · have d1 : decide (x < y) = false := by simpa using h1
    by_cases h2 : y < x
    · have hf : Hid (cmpI x y = 1) := by show _ = _; unfold cmpI; rw [if_neg h1, if_pos h2]
      have d2 : decide (y < x) = true := by simpa using h2
      go_enter Tryd.func25, Tryd.ntmps25
      go_wp2
      go_ret
      exact ⟨ret_int hf.out.symm, rfl⟩
    · have hf : Hid (cmpI x y = 0) := by show _ = _; unfold cmpI; rw [if_neg h1, if_neg h2]
      have d2 : decide (y < x) = false := by simpa using h2
      go_enter Tryd.func25, Tryd.ntmps25
      go_wp2
      go_ret
      exact ⟨ret_int hf.out.symm, rfl⟩

theorem orI_zero {zs : List Int} (h : ∀ i, i < zs.length → gi zs i = 0) : orI zs = 0 := by
  induction zs with
  | nil => rfl
  | cons z zs ih =>
    have h0 : z = 0 := by have := h 0 (by simp); simpa [gi] using this
    rw [orI, if_pos h0]
    exact ih fun i hi => by have := h (i + 1) (by simpa using hi); simpa [gi] using this
theorem orI_at {zs : List Int} {k : Nat} (hk : k < zs.length) (h : ∀ i, i < k → gi zs i = 0) (hne : gi zs k ≠ 0) : orI zs = gi zs k := by
  induction zs generalizing k with
  | nil => simp at hk
  | cons z zs ih =>
    cases k with
    | zero => have : z ≠ 0 := by simpa [gi] using hne
              rw [orI, if_neg this]; simp [gi]
    | succ k =>
      have h0 : z = 0 := by have := h 0 (by omega); simpa [gi] using this
      rw [orI, if_pos h0, ih (k := k) (by simpa using hk) (fun i hi => by have := h (i + 1) (by omega); simpa [gi] using this) (by simpa [gi] using hne)]
      simp [gi]

set_option maxHeartbeats 400000 in
theorem or_any (A : Option Addr) (n c : Nat) (zs : List Int) (w : World) (hx : Ints w A n c zs) (hn : n ≤ 1000000) :
    Calls Tryd.prog 24 #[.slice A n c] w fun e w' => e = .returned (.int .i64 (orI zs)) ∧ w' = w := by
  have Hl := Lib.hid hx.1
  go_enter Tryd.func24, Tryd.ntmps24
  go_wp2
  go_loop [8] (fun i => ∃ k : Nat, k ≤ n ∧ i = .int .i64 k ∧ Hid (∀ i, i < k → gi zs i = 0)) (fun i => n - (intOf i).toNat)
  case atStart => exact ⟨0, by omega, rfl, fun i hi => absurd hi (by omega)⟩
  case round =>
    obtain ⟨k, hk, rfl, HK⟩ := hrel
    by_cases hlt : k < n
    · obtain ⟨b, off, rfl, hb, hcell⟩ := hx.get hlt
      have c1 := hcell k hlt
      clear hcell hx
      by_cases h0 : gi zs k = 0
      · have d0 : (gi zs k != 0) = false := by simp [h0]
        have H0 := Lib.hid h0; clear h0
        go_wp2
        go_round
        case rel => exact ⟨k + 1, by omega, by go_num, fun i hi => by
          rcases Nat.lt_or_ge i k with h | h
          · exact HK.out i h
          · obtain rfl : i = k := by omega
            exact H0.out⟩
        case measure => simp [intOf]; omega
      · have d0 : (gi zs k != 0) = true := by simp [h0]
        have hf := Lib.hid (orI_at (by have := Hl.out; omega) HK.out h0)
        clear h0
        go_wp2
        go_ret
        exact ⟨ret_int hf.out.symm, rfl⟩
    · have hf := Lib.hid (orI_zero (zs := zs) (fun i hi => HK.out i (by have := Hl.out; omega)))
      go_wp2
      go_ret
      exact ⟨ret_int hf.out.symm, rfl⟩

theorem two_ints (w : World) (e : TypeId) (a b : Int) : Ints (w.alloc (.cells #[.int .i64 a, .int .i64 b] e)) (some ⟨w.heap.size, 0, none⟩) 2 2 [a, b] :=
  ⟨rfl, Nat.le_refl _, fun _ => ⟨w.heap.size, 0, rfl, by simp, fun i hi => by
    match i, hi with
    | 0, _ => simp [gi]
    | 1, _ => simp [gi]⟩⟩


def cmpS (x y : List UInt8) : Int := if x < y then -1 else if y < x then 1 else 0
set_option maxHeartbeats 400000 in
theorem compareS_any (x y : List UInt8) (w : World) : Calls Tryd.prog 26 #[.string (strB x), .string (strB y)] w fun e w' => e = .returned (.int .i64 (cmpS x y)) ∧ w' = w := by
  have n1 : ((strB x).toList == (strB x).toList) = true := by rw [strB_beq]; simp
  have n2 : ((strB y).toList == (strB y).toList) = true := by rw [strB_beq]; simp
  have e1 : Op.bytesLess (strB x).toList (strB y).toList = decide (x < y) := by rw [strB_less, bytesLess_eq]
  have e2 : ((strB x).toList == (strB y).toList) = decide (x = y) := strB_beq x y
  by_cases h1 : x < y
  · have hf : Hid (cmpS x y = -1) := by show _ = _; unfold cmpS; rw [if_pos h1]
    rw [decide_eq_true h1] at e1
    clear e2 h1
    go_enter Tryd.func26, Tryd.ntmps26
    go_wp2
    go_ret
    exact ⟨ret_int hf.out.symm, rfl⟩
  · rw [decide_eq_false h1] at e1
    by_cases h2 : x = y
    · have hf : Hid (cmpS x y = 0) := by show _ = _; unfold cmpS; rw [if_neg h1, if_neg (by rw [h2]; exact List.lt_irrefl _)]
      rw [decide_eq_true h2] at e2
      clear h1 h2
      go_enter Tryd.func26, Tryd.ntmps26
      go_wp2
      go_ret
      exact ⟨ret_int hf.out.symm, rfl⟩
    · have hf : Hid (cmpS x y = 1) := by
        show _ = _
        unfold cmpS
        rw [if_neg h1, if_pos]
        rcases List.le_iff_lt_or_eq.1 (List.not_lt.1 h1) with h | h
        · exact h
        · exact absurd h.symm h2
      rw [decide_eq_false h2] at e2
      clear h1 h2
      go_enter Tryd.func26, Tryd.ntmps26
      go_wp2
      go_ret
      exact ⟨ret_int hf.out.symm, rfl⟩

theorem MapIs.run_get {P : Program} {k e : TypeId} {q : IntKind} {w : World} {b n : Nat} {f : List UInt8 → Option Int} (h : MapIs P k e q w b n f) (t : TypeId) (hk : P.underlying k = some .string) (ht : P.underlying t = some (.map k e)) (he : P.underlying e = some (.int q)) (hz : ∀ w : World, (zeroValue e).run P w = .ok (.int q 0) w) (s : List UInt8) (hs : s.length ≤ maxLen) :
    (Instr.lookup t (.map (some b)) (.string (strB s)) false).run P w = .ok (.int q ((f s).getD 0)) w := by
  obtain ⟨D, h1, h2⟩ := h
  obtain ⟨c, hrun, hat, _⟩ := h1.lookup_int (t := t) (Maps.string_keyed hk) ht he (hz w) (strB_key hk s hs)
  rw [(h2 s).2] at hat
  injection hat with hat
  injection hat with _ hat
  rw [hrun, hat]
theorem uMI : Tryd.prog.underlying 40 = some (.map 9 3) := by kernel_rfl
theorem uInt : Tryd.prog.underlying 3 = some (.int .i64) := by kernel_rfl
theorem zI (w : World) : (zeroValue 3).run Tryd.prog w = .ok (.int .i64 0) w := by kernel_rfl
/-- the gain by the map's count. -/
def gainI (c : List UInt8 → Nat) (s : List UInt8) : Int := gainL (c s) s.length
def delB (c : List UInt8 → Nat) (s : List UInt8) : Bool := !(isWordB s) || decide (gainI c s ≤ 0)
def cmpW (c : List UInt8 → Nat) (x y : List UInt8) : Int := orI [cmpI (gainI c y) (gainI c x), cmpS x y]
/-- the map holds the counts. -/
def Counts (w : World) (Bm M n : Nat) (c : List UInt8 → Nat) : Prop := ∃ f, w.cell? ⟨Bm, 0, none⟩ = some (.map (some M)) ∧ MapIs Tryd.prog 9 3 .i64 w M n f ∧ (∀ s, (f s).getD 0 = (c s : Int)) ∧ ∀ s, c s ≤ 1000000

set_option maxHeartbeats 1000000 in
theorem learn1_any (s : List UInt8) (hs : s.length ≤ 1000000) (Bm M n : Nat) (c : List UInt8 → Nat) (w : World) (hc : Counts w Bm M n c) :
    Calls Tryd.prog 19 #[.string (strB s), .pointer (some ⟨Bm, 0, none⟩)] w fun e w' => e = .returned (.bool (delB c s)) ∧ w' = w := by
  obtain ⟨f, hb, hm, hf, hle⟩ := hc
  have hlk := hm.run_get 40 uS uMI uInt zI s (by simp [maxLen]; omega)
  rw [hf s] at hlk
  have hcal := allowed_any s w (by omega)
  have hcal2 := gainP_any s (c s) w (by have := hle s; omega) (by omega)
  clear hm hf
  by_cases hw : isWordB s = true
  · have hfin : Hid (decide (gainL (c s) s.length ≤ 0) = delB c s) := by show _ = _; unfold delB gainI; rw [hw]; rfl
    rw [hw] at hcal
    have Hcal := Lib.hid hcal; clear hcal hw
    have Hcal2 := Lib.hid hcal2; clear hcal2
    go_enter Tryd.func19, Tryd.ntmps19
    go_wp2_with (first
      | (go_at_call 20; refine Hcal.out.mono ?_; rintro e w1 ⟨rfl, hw1⟩; obtain rfl : w = w1 := hw1.symm)
      | (go_at_call 21; refine Hcal2.out.mono ?_; rintro e w1 ⟨rfl, hw1⟩; obtain rfl : w = w1 := hw1.symm))
    go_ret
    exact ⟨ret_bool hfin.out, rfl⟩
  · have hw' : isWordB s = false := by simpa using hw
    have hfin : Hid (delB c s = true) := by show _ = _; simp [delB, hw']
    rw [hw'] at hcal
    have Hcal := Lib.hid hcal; clear hcal hw hw' hcal2
    go_enter Tryd.func19, Tryd.ntmps19
    go_wp2_with (first
      | (go_at_call 20; refine Hcal.out.mono ?_; rintro e w1 ⟨rfl, hw1⟩; obtain rfl : w = w1 := hw1.symm))
    go_ret
    exact ⟨ret_bool hfin.out.symm, rfl⟩

set_option maxHeartbeats 1000000 in
theorem learn2_any (x y : List UInt8) (hx : x.length ≤ 1000000) (hy : y.length ≤ 1000000) (Bm M n : Nat) (c : List UInt8 → Nat) (w : World) (hc : Counts w Bm M n c) :
    Calls Tryd.prog 23 #[.string (strB x), .string (strB y), .pointer (some ⟨Bm, 0, none⟩)] w fun e w' => e = .returned (.int .i64 (cmpW c x y)) ∧ ∃ q o, w' = (w.drewN q).alloc o := by
  obtain ⟨f, hb, hm, hf, hle⟩ := hc
  have hlx : ∀ q, (Instr.lookup 40 (.map (some M)) (.string (strB x)) false).run Tryd.prog (w.drewN q) = .ok (.int .i64 (c x : Int)) (w.drewN q) := fun q => by
    have := MapIs.run_get (w := w.drewN q) (hm.same rfl) 40 uS uMI uInt zI x (by simp [maxLen]; omega)
    rwa [hf x] at this
  have hly : ∀ q, (Instr.lookup 40 (.map (some M)) (.string (strB y)) false).run Tryd.prog (w.drewN q) = .ok (.int .i64 (c y : Int)) (w.drewN q) := fun q => by
    have := MapIs.run_get (w := w.drewN q) (hm.same rfl) 40 uS uMI uInt zI y (by simp [maxLen]; omega)
    rwa [hf y] at this
  have Hcx : Hid (∀ q, Calls Tryd.prog 21 #[.string (strB x), .int .i64 (c x : Int)] (w.drewN q) fun e w' => e = .returned (.int .i64 (gainI c x)) ∧ w' = w.drewN q) := fun q => gainP_any x (c x) _ (by have := hle x; omega) (by omega)
  have Hcy : Hid (∀ q, Calls Tryd.prog 21 #[.string (strB y), .int .i64 (c y : Int)] (w.drewN q) fun e w' => e = .returned (.int .i64 (gainI c y)) ∧ w' = w.drewN q) := fun q => gainP_any y (c y) _ (by have := hle y; omega) (by omega)
  clear hm hf
  go_enter Tryd.func23, Tryd.ntmps23
  go_wp2_with fail
  refine wp_region_quiet_tail 14 (by kernel_rfl) (by kernel_rfl) ?_
  simp only [List.take_succ_cons, List.take_zero, List.drop_succ_cons, List.drop_zero]
  repeat (go_big_quiet_step (first
    | (go_at_call 25; exact Calls.quiet_of_same (compareI_any _ _ _))
    | (go_at_call 26; exact Calls.quiet_of_same (compareS_any _ _ _))
    | (go_at_call_of 21 (Value.string (strB x)); exact Calls.quiet_of_same (Hcx.out _))
    | (go_at_call_of 21 (Value.string (strB y)); exact Calls.quiet_of_same (Hcy.out _))))
  refine wpQuiet_nil ?_
  intro _ hw'
  obtain ⟨nq, hw''⟩ := hw'
  subst hw''
  go_wp2_with fail
  refine (or_any _ 2 2 _ _ (two_ints (w.drewN nq) _ _ _) (by omega)).mono ?_
  rintro e w' ⟨rfl, rfl⟩
  go_wp2
  go_ret
  exact ⟨rfl, nq, _, rfl⟩
end Go.Proofs.YtdebhdopginllaaDoor
