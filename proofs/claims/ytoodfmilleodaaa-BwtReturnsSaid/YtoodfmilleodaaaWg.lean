/- Contracts of the program's leaves: cmp.Compare, cmp.Or, the two closures of Sort. -/
import Derived.Test.YtoodfmilleodaaaWb
import Derived.Test.YtoodfmilleodaaaQt
import Derived.Test.YtoodfmilleodaaaPd
namespace Go.Proofs.Ytoodfmilleodaaa
open Go.RowKit Go.Proofs
set_option linter.unusedVariables false

set_option maxHeartbeats 400000 in
theorem compareI_any (x y : Int) (w : World) : Calls Try.prog 65 #[.int .i64 x, .int .i64 y] w fun e w' => e = .returned (.int .i64 (cmpI x y)) ∧ w' = w := by
  have n1 : (x != x) = false := by simp
  have n2 : (y != y) = false := by simp
  by_cases h1 : x < y
  · have hf : Hid (cmpI x y = -1) := by show _ = _; unfold cmpI; rw [if_pos h1]
    have d1 : decide (x < y) = true := by simpa using h1
    go_enter Try.func65, Try.ntmps65
    go_wp2
    go_ret
    exact ⟨ret_int hf.out.symm, rfl⟩
  · have d1 : decide (x < y) = false := by simpa using h1
    by_cases h2 : y < x
    · have hf : Hid (cmpI x y = 1) := by show _ = _; unfold cmpI; rw [if_neg h1, if_pos h2]
      have d2 : decide (y < x) = true := by simpa using h2
      go_enter Try.func65, Try.ntmps65
      go_wp2
      go_ret
      exact ⟨ret_int hf.out.symm, rfl⟩
    · have hf : Hid (cmpI x y = 0) := by show _ = _; unfold cmpI; rw [if_neg h1, if_neg h2]
      have d2 : decide (y < x) = false := by simpa using h2
      go_enter Try.func65, Try.ntmps65
      go_wp2
      go_ret
      exact ⟨ret_int hf.out.symm, rfl⟩

theorem orI_zero {zs : List Int} (h : ∀ i, i < zs.length → gi zs i = 0) : orI zs = 0 := by
  induction zs with
  | nil => rfl
  | cons z zs ih =>
    have h0 : z = 0 := by have := h 0 (by simp); simpa [gi] using this
    rw [orI, if_pos h0]
    exact ih fun i hi => by have := h (i + 1) (by simpa using hi); simpa [gi] using this
theorem orI_at {zs : List Int} {k : Nat} (hk : k < zs.length) (h : ∀ i, i < k → gi zs i = 0) (hne : gi zs k ≠ 0) : orI zs = gi zs k := by
  induction zs generalizing k with
  | nil => simp at hk
  | cons z zs ih =>
    cases k with
    | zero => have : z ≠ 0 := by simpa [gi] using hne
              rw [orI, if_neg this]; simp [gi]
    | succ k =>
      have h0 : z = 0 := by have := h 0 (by omega); simpa [gi] using this
      rw [orI, if_pos h0, ih (k := k) (by simpa using hk) (fun i hi => by have := h (i + 1) (by omega); simpa [gi] using this) (by simpa [gi] using hne)]
      simp [gi]

set_option maxHeartbeats 400000 in
theorem or_any (A : Option Addr) (n c : Nat) (zs : List Int) (w : World) (hx : Ints w A n c zs) (hn : n ≤ 1000000) :
    Calls Try.prog 64 #[.slice A n c] w fun e w' => e = .returned (.int .i64 (orI zs)) ∧ w' = w := by
  have Hl := Lib.hid hx.1
  go_enter Try.func64, Try.ntmps64
  go_wp2
  go_loop [8] (fun i => ∃ k : Nat, k ≤ n ∧ i = .int .i64 k ∧ Hid (∀ i, i < k → gi zs i = 0)) (fun i => n - (intOf i).toNat)
  case atStart => exact ⟨0, by omega, rfl, fun i hi => absurd hi (by omega)⟩
  case round =>
    obtain ⟨k, hk, rfl, HK⟩ := hrel
    by_cases hlt : k < n
    · obtain ⟨b, off, rfl, hb, hcell⟩ := hx.get hlt
      have c1 := hcell k hlt
      clear hcell hx
      by_cases h0 : gi zs k = 0
      · have d0 : (gi zs k != 0) = false := by simp [h0]
        have H0 := Lib.hid h0; clear h0
        go_wp2
        go_round
        case rel => exact ⟨k + 1, by omega, by go_num, fun i hi => by
          rcases Nat.lt_or_ge i k with h | h
          · exact HK.out i h
          · obtain rfl : i = k := by omega
            exact H0.out⟩
        case measure => simp [intOf]; omega
      · have d0 : (gi zs k != 0) = true := by simp [h0]
        have hf := Lib.hid (orI_at (by have := Hl.out; omega) HK.out h0)
        clear h0
        go_wp2
        go_ret
        exact ⟨ret_int hf.out.symm, rfl⟩
    · have hf := Lib.hid (orI_zero (zs := zs) (fun i hi => HK.out i (by have := Hl.out; omega)))
      go_wp2
      go_ret
      exact ⟨ret_int hf.out.symm, rfl⟩

set_option maxHeartbeats 400000 in
theorem rest_any (L N R : Nat) (A : Option Addr) (c n len : Nat) (rk : List Int) (x : Int) (w : World) (hL : w.cell? ⟨L, 0, none⟩ = some (.int .i64 (len : Int))) (hN : w.cell? ⟨N, 0, none⟩ = some (.int .i64 (n : Int)))
    (hR : w.cell? ⟨R, 0, none⟩ = some (.slice A (n + 1) c)) (hr : Ints w A (n + 1) c rk) (hn : n ≤ 65536) (hlen : len ≤ 1000000) (h0 : 0 ≤ x) (h1 : x ≤ n) :
    Calls Try.prog 62 #[.int .i64 x, .pointer (some ⟨L, 0, none⟩), .pointer (some ⟨N, 0, none⟩), .pointer (some ⟨R, 0, none⟩)] w fun e w' => e = .returned (.int .i64 (restI rk n len x.toNat)) ∧ w' = w := by
  obtain ⟨i, rfl⟩ := Int.eq_ofNat_of_zero_le h0
  rw [Int.toNat_natCast]
  by_cases h : i + len ≤ n
  · have d1 : decide ((i : Int) + (len : Int) ≤ (n : Int)) = true := by simp; omega
    have hf : Hid (restI rk n len i = gi rk (i + len)) := by show _ = _; unfold restI; rw [if_pos h]
    obtain ⟨b, off, rfl, hb, hcell⟩ := hr.get (k := i + len) (by omega)
    have c1 := hcell (i + len) (by omega)
    clear hcell hr
    go_enter Try.func62, Try.ntmps62
    go_wp2
    go_ret
    exact ⟨ret_int hf.out.symm, rfl⟩
  · have d1 : decide ((i : Int) + (len : Int) ≤ (n : Int)) = false := by simp; omega
    have hf : Hid (restI rk n len i = 0) := by show _ = _; unfold restI; rw [if_neg h]
    clear hr
    go_enter Try.func62, Try.ntmps62
    go_wp2
    go_ret
    exact ⟨ret_int hf.out.symm, rfl⟩

theorem two_ints (w : World) (e : TypeId) (a b : Int) : Ints (w.alloc (.cells #[.int .i64 a, .int .i64 b] e)) (some ⟨w.heap.size, 0, none⟩) 2 2 [a, b] :=
  ⟨rfl, Nat.le_refl _, fun _ => ⟨w.heap.size, 0, rfl, by simp, fun i hi => by
    match i, hi with
    | 0, _ => simp [gi]
    | 1, _ => simp [gi]⟩⟩

set_option maxHeartbeats 1000000 in
theorem compare_any (L N R F : Nat) (A : Option Addr) (c n len : Nat) (rk : List Int) (x y : Int) (w : World) (hL : w.cell? ⟨L, 0, none⟩ = some (.int .i64 (len : Int))) (hN : w.cell? ⟨N, 0, none⟩ = some (.int .i64 (n : Int)))
    (hR : w.cell? ⟨R, 0, none⟩ = some (.slice A (n + 1) c)) (hF : w.cell? ⟨F, 0, none⟩ = some (.func (.func 62) #[] #[.pointer (some ⟨L, 0, none⟩), .pointer (some ⟨N, 0, none⟩), .pointer (some ⟨R, 0, none⟩)]))
    (hr : Ints w A (n + 1) c rk) (hn : n ≤ 65536) (hlen : len ≤ 1000000) (hx0 : 0 ≤ x) (hx1 : x ≤ n) (hy0 : 0 ≤ y) (hy1 : y ≤ n) :
    Calls Try.prog 63 #[.int .i64 x, .int .i64 y, .pointer (some ⟨R, 0, none⟩), .pointer (some ⟨F, 0, none⟩)] w fun e w' => e = .returned (.int .i64 (cmpR rk n len x.toNat y.toNat)) ∧ ∃ q o, w' = (w.drewN q).alloc o := by
  have H1 : Hid (∀ q, Calls Try.prog 62 #[.int .i64 x, .pointer (some ⟨L, 0, none⟩), .pointer (some ⟨N, 0, none⟩), .pointer (some ⟨R, 0, none⟩)] (w.drewN q) fun e w' => e = .returned (.int .i64 (restI rk n len x.toNat)) ∧ w' = w.drewN q) :=
    fun q => rest_any L N R A c n len rk x (w.drewN q) hL hN hR (hr.drewN q) hn hlen hx0 hx1
  have H2 : Hid (∀ q, Calls Try.prog 62 #[.int .i64 y, .pointer (some ⟨L, 0, none⟩), .pointer (some ⟨N, 0, none⟩), .pointer (some ⟨R, 0, none⟩)] (w.drewN q) fun e w' => e = .returned (.int .i64 (restI rk n len y.toNat)) ∧ w' = w.drewN q) :=
    fun q => rest_any L N R A c n len rk y (w.drewN q) hL hN hR (hr.drewN q) hn hlen hy0 hy1
  obtain ⟨i, rfl⟩ := Int.eq_ofNat_of_zero_le hx0
  obtain ⟨j, rfl⟩ := Int.eq_ofNat_of_zero_le hy0
  rw [Int.toNat_natCast] at *
  rw [Int.toNat_natCast] at *
  obtain ⟨b, off, rfl, hb, hcell⟩ := hr.get (k := i) (by omega)
  have c1 := hcell i (by omega)
  have c2 := hcell j (by omega)
  have b1 : (i : Int) < (n : Int) + 1 := by omega
  have b2 : (j : Int) < (n : Int) + 1 := by omega
  clear hcell hr
  go_enter Try.func63, Try.ntmps63
  go_wp2_with fail
  refine wp_region_quiet_tail 16 (by kernel_rfl) (by kernel_rfl) ?_
  simp only [List.take_succ_cons, List.take_zero, List.drop_succ_cons, List.drop_zero]
  repeat (go_big_quiet_step (first
    | (go_at_call 65; exact Calls.quiet_of_same (compareI_any _ _ _))
    | (go_at_call_of 62 (Value.int .i64 (i : Int)); exact Calls.quiet_of_same (H1.out _))
    | (go_at_call_of 62 (Value.int .i64 (j : Int)); exact Calls.quiet_of_same (H2.out _))))
  refine wpQuiet_nil ?_
  intro _ hw'
  obtain ⟨nq, hw''⟩ := hw'
  subst hw''
  go_wp2_with fail
  refine (or_any _ 2 2 _ _ (two_ints (w.drewN nq) _ _ _) (by omega)).mono ?_
  rintro e w' ⟨rfl, rfl⟩
  go_wp2
  go_ret
  exact ⟨rfl, nq, _, rfl⟩
end Go.Proofs.Ytoodfmilleodaaa
