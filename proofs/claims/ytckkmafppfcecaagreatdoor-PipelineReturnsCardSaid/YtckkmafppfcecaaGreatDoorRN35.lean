/- Wg Wh. -/
import Derived.Test.YtckkmafppfcecaaGreatDoorRN31
import Derived.Test.YtckkmafppfcecaaGreatDoorRN13
import Derived.Test.YtckkmafppfcecaaGreatDoorRN01
import Derived.Test.YtckkmafppfcecaaGreatDoorRN27
import Derived.Test.YtckkmafppfcecaaGreatDoorRN00
import Derived.Test.YtckkmafppfcecaaGreatDoorRN06
set_option maxRecDepth 100000
set_option maxHeartbeats 4000000
namespace Go.Proofs.YtckkmafppfcecaaGreatDoor.Bwt
open Go.RowKit Go.Proofs
set_option linter.unusedVariables false
theorem compareI_any (x y : Int) (w : World) : Calls Tryz.prog 183 #[.int .i64 x, .int .i64 y] w fun e w' => e = .returned (.int .i64 (cmpI x y)) ∧ w' = w := by
  apply Dic.compareI_any <;> assumption
theorem orI_zero {zs : List Int} (h : ∀ i, i < zs.length → gi zs i = 0) : orI zs = 0 := by
  induction zs with
  | nil => rfl
  | cons z zs ih =>
    have h0 : z = 0 := by have := h 0 (by simp); simpa [gi] using this
    rw [orI, if_pos h0]
    exact ih fun i hi => by have := h (i + 1) (by simpa using hi); simpa [gi] using this
theorem orI_at {zs : List Int} {k : Nat} (hk : k < zs.length) (h : ∀ i, i < k → gi zs i = 0) (hne : gi zs k ≠ 0) : orI zs = gi zs k := by
  induction zs generalizing k with
  | nil => simp at hk
  | cons z zs ih =>
    cases k with
    | zero => have : z ≠ 0 := by simpa [gi] using hne
              rw [orI, if_neg this]; simp [gi]
    | succ k =>
      have h0 : z = 0 := by have := h 0 (by omega); simpa [gi] using this
      rw [orI, if_pos h0, ih (k := k) (by simpa using hk) (fun i hi => by have := h (i + 1) (by omega); simpa [gi] using this) (by simpa [gi] using hne)]
      simp [gi]
theorem or_any (A : Option Addr) (n c : Nat) (zs : List Int) (w : World) (hx : Ints w A n c zs) (hn : n ≤ 1000000) :
    Calls Tryz.prog 182 #[.slice A n c] w fun e w' => e = .returned (.int .i64 (orI zs)) ∧ w' = w := by
  have Hl := Lib.hid hx.1
  go_enter Tryz.func182, Tryz.ntmps182
  go_wp2
  go_loop [8] (fun i => ∃ k : Nat, k ≤ n ∧ i = .int .i64 k ∧ Hid (∀ i, i < k → gi zs i = 0)) (fun i => n - (intOf i).toNat)
  case atStart => exact ⟨0, by omega, rfl, fun i hi => absurd hi (by omega)⟩
  case round =>
    obtain ⟨k, hk, rfl, HK⟩ := hrel
    by_cases hlt : k < n
    · obtain ⟨b, off, rfl, hb, hcell⟩ := hx.get hlt
      have c1 := hcell k hlt
      clear hcell hx
      by_cases h0 : gi zs k = 0
      · have d0 : (gi zs k != 0) = false := by simp [h0]
        have H0 := Lib.hid h0; clear h0
        go_wp2
        go_round
        case rel => exact ⟨k + 1, by omega, by go_num, fun i hi => by
          rcases Nat.lt_or_ge i k with h | h
          · exact HK.out i h
          · obtain rfl : i = k := by omega
            exact H0.out⟩
        case measure => simp [intOf]; omega
      · have d0 : (gi zs k != 0) = true := by simp [h0]
        have hf := Lib.hid (orI_at (by have := Hl.out; omega) HK.out h0)
        clear h0
        go_wp2
        go_ret
        exact ⟨ret_int hf.out.symm, rfl⟩
    · have hf := Lib.hid (orI_zero (zs := zs) (fun i hi => HK.out i (by have := Hl.out; omega)))
      go_wp2
      go_ret
      exact ⟨ret_int hf.out.symm, rfl⟩
theorem rest_any (L N R : Nat) (A : Option Addr) (c n len : Nat) (rk : List Int) (x : Int) (w : World) (hL : w.cell? ⟨L, 0, none⟩ = some (.int .i64 (len : Int))) (hN : w.cell? ⟨N, 0, none⟩ = some (.int .i64 (n : Int)))
    (hR : w.cell? ⟨R, 0, none⟩ = some (.slice A (n + 1) c)) (hr : Ints w A (n + 1) c rk) (hn : n ≤ 65536) (hlen : len ≤ 1000000) (h0 : 0 ≤ x) (h1 : x ≤ n) :
    Calls Tryz.prog 269 #[.int .i64 x, .pointer (some ⟨L, 0, none⟩), .pointer (some ⟨N, 0, none⟩), .pointer (some ⟨R, 0, none⟩)] w fun e w' => e = .returned (.int .i64 (restI rk n len x.toNat)) ∧ w' = w := by
  obtain ⟨i, rfl⟩ := Int.eq_ofNat_of_zero_le h0
  rw [Int.toNat_natCast]
  by_cases h : i + len ≤ n
  · have d1 : decide ((i : Int) + (len : Int) ≤ (n : Int)) = true := by simp; omega
    have hf : Hid (restI rk n len i = gi rk (i + len)) := by show _ = _; unfold restI; rw [if_pos h]
    obtain ⟨b, off, rfl, hb, hcell⟩ := hr.get (k := i + len) (by omega)
    have c1 := hcell (i + len) (by omega)
    clear hcell hr
    go_enter Tryz.func269, Tryz.ntmps269
    go_wp2
    go_ret
    exact ⟨ret_int hf.out.symm, rfl⟩
  · have d1 : decide ((i : Int) + (len : Int) ≤ (n : Int)) = false := by simp; omega
    have hf : Hid (restI rk n len i = 0) := by show _ = _; unfold restI; rw [if_neg h]
    clear hr
    go_enter Tryz.func269, Tryz.ntmps269
    go_wp2
    go_ret
    exact ⟨ret_int hf.out.symm, rfl⟩
theorem two_ints (w : World) (e : TypeId) (a b : Int) : Ints (w.alloc (.cells #[.int .i64 a, .int .i64 b] e)) (some ⟨w.heap.size, 0, none⟩) 2 2 [a, b] :=
  ⟨rfl, Nat.le_refl _, fun _ => ⟨w.heap.size, 0, rfl, by simp, fun i hi => by
    match i, hi with
    | 0, _ => simp [gi]
    | 1, _ => simp [gi]⟩⟩
theorem compare_any (L N R F : Nat) (A : Option Addr) (c n len : Nat) (rk : List Int) (x y : Int) (w : World) (hL : w.cell? ⟨L, 0, none⟩ = some (.int .i64 (len : Int))) (hN : w.cell? ⟨N, 0, none⟩ = some (.int .i64 (n : Int)))
    (hR : w.cell? ⟨R, 0, none⟩ = some (.slice A (n + 1) c)) (hF : w.cell? ⟨F, 0, none⟩ = some (.func (.func 269) #[] #[.pointer (some ⟨L, 0, none⟩), .pointer (some ⟨N, 0, none⟩), .pointer (some ⟨R, 0, none⟩)]))
    (hr : Ints w A (n + 1) c rk) (hn : n ≤ 65536) (hlen : len ≤ 1000000) (hx0 : 0 ≤ x) (hx1 : x ≤ n) (hy0 : 0 ≤ y) (hy1 : y ≤ n) :
    Calls Tryz.prog 270 #[.int .i64 x, .int .i64 y, .pointer (some ⟨R, 0, none⟩), .pointer (some ⟨F, 0, none⟩)] w fun e w' => e = .returned (.int .i64 (cmpR rk n len x.toNat y.toNat)) ∧ ∃ q o, w' = (w.drewN q).alloc o := by
  have H1 : Hid (∀ q, Calls Tryz.prog 269 #[.int .i64 x, .pointer (some ⟨L, 0, none⟩), .pointer (some ⟨N, 0, none⟩), .pointer (some ⟨R, 0, none⟩)] (w.drewN q) fun e w' => e = .returned (.int .i64 (restI rk n len x.toNat)) ∧ w' = w.drewN q) :=
    fun q => rest_any L N R A c n len rk x (w.drewN q) hL hN hR (hr.drewN q) hn hlen hx0 hx1
  have H2 : Hid (∀ q, Calls Tryz.prog 269 #[.int .i64 y, .pointer (some ⟨L, 0, none⟩), .pointer (some ⟨N, 0, none⟩), .pointer (some ⟨R, 0, none⟩)] (w.drewN q) fun e w' => e = .returned (.int .i64 (restI rk n len y.toNat)) ∧ w' = w.drewN q) :=
    fun q => rest_any L N R A c n len rk y (w.drewN q) hL hN hR (hr.drewN q) hn hlen hy0 hy1
  obtain ⟨i, rfl⟩ := Int.eq_ofNat_of_zero_le hx0
  obtain ⟨j, rfl⟩ := Int.eq_ofNat_of_zero_le hy0
  rw [Int.toNat_natCast] at *
  rw [Int.toNat_natCast] at *
  obtain ⟨b, off, rfl, hb, hcell⟩ := hr.get (k := i) (by omega)
  have c1 := hcell i (by omega)
  have c2 := hcell j (by omega)
  have b1 : (i : Int) < (n : Int) + 1 := by omega
  have b2 : (j : Int) < (n : Int) + 1 := by omega
  clear hcell hr
  go_enter Tryz.func270, Tryz.ntmps270
  go_wp2_with fail
  refine wp_region_quiet_tail 16 (by kernel_rfl) (by kernel_rfl) ?_
  simp only [List.take_succ_cons, List.take_zero, List.drop_succ_cons, List.drop_zero]
  repeat (go_big_quiet_step (first
    | (go_at_call 183; exact Calls.quiet_of_same (compareI_any _ _ _))
    | (go_at_call_of 269 (Value.int .i64 (i : Int)); exact Calls.quiet_of_same (H1.out _))
    | (go_at_call_of 269 (Value.int .i64 (j : Int)); exact Calls.quiet_of_same (H2.out _))))
  refine wpQuiet_nil ?_
  intro _ hw'
  obtain ⟨nq, hw''⟩ := hw'
  subst hw''
  go_wp2_with fail
  refine (or_any _ 2 2 _ _ (two_ints (w.drewN nq) _ _ _) (by omega)).mono ?_
  rintro e w' ⟨rfl, rfl⟩
  go_wp2
  go_ret
  exact ⟨rfl, nq, _, rfl⟩
end Go.Proofs.YtckkmafppfcecaaGreatDoor.Bwt
namespace Go.Proofs.YtckkmafppfcecaaGreatDoor.Bwt
open Go.RowKit Go.Proofs Go.Sort Go.Shelf
set_option linter.unusedVariables false
section
variable {α : Type} [Inhabited α] {enc : α → Value}
theorem sortWorld_grown (w : World) (blk m : Nat) (d : Array α) (os : Array Obj) : w.grownBy (sortWorld enc w blk 0 m d os) (some blk) := by
  refine ⟨rfl, rfl, rfl, ?_, fun k hk hne => ?_⟩
  · simp [sortWorld, grow, putRow, mapBlock, Sort.ahead]
  · have hne' : ¬ blk = k := fun e => hne (by rw [e])
    simp only [sortWorld, grow, putRow, mapBlock, Sort.ahead]
    rw [Array.getElem?_append_left (by simpa using hk), Array.getElem?_modify, if_neg hne']
theorem sortWorld_row (w : World) (blk m : Nat) (t : TypeId) (xs : List α) (d : Array α) (os : Array Obj) (h : Row enc w blk t xs) (hd : d.size = xs.length) : Row enc (sortWorld enc w blk 0 m d os) blk t d.toList := by
  have hlt := h.lt
  unfold Row at h ⊢
  simp only [sortWorld, grow, putRow, mapBlock, Sort.ahead]
  rw [Array.getElem?_append_left (by simpa using hlt), Array.getElem?_modify, if_pos rfl, h]
  simp only [Option.map_some, onCells]
  congr 2
  apply Array.ext_getElem?
  intro k
  simp only [putCells, Array.getElem?_mapIdx, List.getElem?_toArray, List.getElem?_map, Array.getElem?_toList]
  by_cases hk : k < xs.length
  · rw [List.getElem?_eq_getElem hk, Array.getElem?_eq_getElem (by omega : k < d.size)]
    simp only [Option.map_some]
    rw [if_pos (by omega), Nat.sub_zero, getElem!_pos d k (by omega)]
  · rw [List.getElem?_eq_none (by omega), Array.getElem?_eq_none (by omega)]
    rfl
theorem sortFunc_row (h1 : ∀ x, (enc x).oneCell' = true) (cf : α → α → Int) (hO : SWO (ltOf cf)) (fn : Nat) (cb : Array Value) (blk c : Nat) (t : TypeId) (xs : List α) (w : World)
    (eg : ∀ args w, (callFunc fn args).run Tryz.prog w = .ok (.enter fn args) w) (hrow : Row enc w blk t xs) (hl : xs.length < 4611686018427387904)
    (hcmp : ∀ W : World, w.grownBy W (some blk) → ∀ x y, Calls Tryz.prog fn (#[enc x, enc y] ++ cb) W fun e w' => e = .returned (.int .i64 (cf x y)) ∧ ∃ q os', w' = grow (W.drewN q) os') :
    Calls Tryz.prog 271 #[.slice (some ⟨blk, 0, none⟩) xs.length c, .func (.func fn) #[] cb] w fun e w' =>
      e = .returned (.tuple #[]) ∧ ∃ ys : List α, ys.Perm xs ∧ ys.Pairwise (fun a b => ltOf cf b a = false) ∧ Row enc w' blk t ys ∧ w.grownBy w' (some blk) := by
  have hs : xs.toArray.size = xs.length := by simp
  have hH : Holds enc w blk 0 xs.toArray := fun j hj => by
    rw [hs] at hj
    refine ⟨?_, hrow.frozen _⟩
    rw [Nat.zero_add, hrow.cell xs.toArray[j]! hj]
    simp [List.getD, hj]
  have h := Tryz.slices_SortFunc_f271 enc h1 cf hO fn cb blk 0 c xs.toArray w eg (fun m os dk hdk x y => hcmp _ (sortWorld_grown w blk m dk os) x y) hH hrow.lt (by rw [hs]; exact hl)
  rw [hs] at h
  refine h.mono ?_
  rintro e w' ⟨he, d', n, os, hp, hso, rfl⟩
  have hsz : d'.size = xs.length := by rw [hp.1, hs]
  refine ⟨he, d'.toList, ?_, ?_, sortWorld_row w blk n t xs d' os hrow hsz, sortWorld_grown w blk n d' os⟩
  · have := hp.2.2
    rw [show d'.extract 0 xs.length = d' by rw [← hsz]; simp, show xs.toArray.extract 0 xs.length = xs.toArray by simp] at this
    simpa using this
  · rw [List.pairwise_iff_getElem]
    intro i j hi hj hij
    have hi' : i < d'.size := by simpa using hi
    have hj' : j < d'.size := by simpa using hj
    have := hso i j (Nat.zero_le _) hij (by omega)
    rw [getElem!_pos d' i hi', getElem!_pos d' j hj'] at this
    simpa using this
end
end Go.Proofs.YtckkmafppfcecaaGreatDoor.Bwt
