/- Zy Ob. -/
import Derived.Test.YtohadkmaemmfgaaGreatDoorRI20
import Derived.Test.YtohadkmaemmfgaaGreatDoorRI21
import Derived.Laws.BitsLemmas
set_option maxRecDepth 100000
set_option maxHeartbeats 4000000
namespace Go.Proofs.YtohadkmaemmfgaaGreatDoor
open Go.RowKit Go.Proofs
set_option linter.unusedVariables false
set_option linter.unusedSimpArgs false
attribute [local go_sem] Oper.semAt_some
theorem InvB.step_below {w W W1 W6 : World} {S ob : Nat} {fx : List (Nat × Obj)} {xs : List UInt8} {A2 A6 : Option Addr} {n2 c2 n6 c6 : Nat} (h : InvB w S ob fx xs W) (hobS : ob < S) (hwo : w.heap.size ≤ ob) (hb : Below W.heap.size W W1) (hown : Own encB W S 5 A2 n2 c2 xs)
    (hg : W1.grownBy W6 (Value.slice A2 n2 c2).ownBlock) : Below w.heap.size W (W6.setCell ⟨ob, 0, none⟩ (.slice A6 n6 c6)) := by
  have hsz := h.size
  have s1 := hb.size
  refine Below.setCell (p := ⟨ob, 0, none⟩) ?_ hwo _
  exact (hb.mono (by omega)).grown hg (by omega) (fun r e => by have := (blk_type hown e).1; omega)
section
variable {α : Type} {enc : α → Value} {P : Program} {w : World} {B : Nat} {e t : TypeId} {A : Option Addr} {n c : Nat} {xs : List α} {zero : α} {bytes : Nat} {F : Fence} {nF : Nat}
  {ops : Array Oper} {rest : List Oper} {o : Oper} {a : Act} {K : Act → World → Prop} {Q : Exit → Act → World → Prop} {E : Prop}
end
theorem InvB.put {w W : World} {S ob : Nat} {fx : List (Nat × Obj)} {xs : List UInt8} {A2 : Option Addr} {n2 c2 : Nat} (h : InvB w S ob fx xs W) (hf : FxOk S ob fx) (hobS : ob < S) (hwo : w.heap.size ≤ ob) (hob : Boxed W ob 23 (.slice A2 n2 c2)) (hown : Own encB W S 5 A2 n2 c2 xs) {b1 : Nat} {o1 : Obj} (hb1 : (b1, o1) ∈ fx)
    (W1 W6 : World) (A6 : Option Addr) (n6 c6 : Nat) (ys : List UInt8) (hb : Below W.heap.size W W1) (hg : W1.grownBy W6 (Value.slice A2 n2 c2).ownBlock) (ho : Own encB W6 S 5 A6 n6 c6 ys) :
    W6.cell? ⟨ob, 0, none⟩ = some (.slice A2 n2 c2) ∧ W6.frozen? ⟨ob, 0, none⟩ = false ∧ KeepsFrom S W (W6.setCell ⟨ob, 0, none⟩ (.slice A6 n6 c6)) ∧ oneKp w.heap.size b1 W (W6.setCell ⟨ob, 0, none⟩ (.slice A6 n6 c6)) ∧ InvB w S ob fx ys (W6.setCell ⟨ob, 0, none⟩ (.slice A6 n6 c6)) := by
  have t2 : Boxed W1 ob 23 (.slice A2 n2 c2) := (hb.block _ hob.lt).trans hob
  have t6 : Boxed W6 ob 23 (.slice A2 n2 c2) := t2.kept hg (fun e => by
    obtain ⟨_, cur, hc⟩ := blk_type (hown.below hb) e.symm
    unfold Boxed at t2
    rw [t2] at hc
    injection hc with hc
    injection hc with _ hc
    exact absurd hc (by decide))
  obtain ⟨f1, f2, f3⟩ := h.step hf hobS hwo hb hob hown hg ho
  exact ⟨t6.cell, t6.frozen, f1, ⟨f2 _ hb1, h.step_below hobS hwo hb hown hg⟩, f3⟩
end Go.Proofs.YtohadkmaemmfgaaGreatDoor
namespace Go.Proofs.YtohadkmaemmfgaaGreatDoor
open Go.RowKit Go.Proofs
set_option linter.unusedVariables false
set_option linter.unusedSimpArgs false
theorem valR_snoc (b : UInt8) : ∀ l : List UInt8, valR (l ++ [b]) = valR l + 2 ^ l.length * (b.toNat + 1)
  | [] => by simp [valR]
  | a :: r => by
    rw [List.cons_append, valR, valR, valR_snoc b r, List.length_cons, Nat.pow_succ, Nat.mul_add, ← Nat.mul_assoc, Nat.mul_comm 2 (2 ^ r.length)]
    omega
theorem dgs_lt : ∀ {l : List UInt8} {k : Nat}, k < dgs l → (bA l k).toNat < 2
  | [], k, h => by simp [dgs] at h
  | b :: r, k, h => by
    rw [dgs] at h
    by_cases hb : b.toNat < 2
    · rw [if_pos hb] at h
      cases k with
      | zero => exact hb
      | succ k => exact dgs_lt (l := r) (k := k) (by omega)
    · rw [if_neg hb] at h; omega
theorem dgs_end : ∀ {l : List UInt8}, dgs l < l.length → 2 ≤ (bA l (dgs l)).toNat
  | [], h => by simp at h
  | b :: r, h => by
    rw [dgs] at h ⊢
    by_cases hb : b.toNat < 2
    · rw [if_pos hb] at h ⊢
      exact dgs_end (l := r) (by simpa using h)
    · rw [if_neg hb]
      show 2 ≤ b.toNat
      omega
theorem w64b (n : Nat) (h : n ≤ 1000000000) : wrap64 (n : Int) = (n : Int) := by unfold wrap64; omega
theorem min_cast (a : Nat) : (if (65537 : Int) < (a : Int) then 65537 else (a : Int)) = ((min a 65537 : Nat) : Int) := by split <;> omega
def nmB (l : List UInt8) (k : Nat) : Nat := min (valR (l.take k)) 65537
theorem nmB_next {l : List UInt8} {k : Nat} (h : k < l.length) : nmB l (k + 1) = min (nmB l k + ((bA l k).toNat + 1) * 2 ^ k) 65537 := by
  unfold nmB
  have e : l[k]? = some (bA l k) := by unfold bA; rw [List.getD_eq_getElem?_getD, List.getElem?_eq_getElem h]; rfl
  rw [List.take_add_one, e, Option.toList_some, valR_snoc, List.length_take, Nat.min_eq_left (Nat.le_of_lt h), Nat.mul_comm (2 ^ k)]
  omega
theorem nmB_big {l : List UInt8} {k : Nat} (h : k < l.length) (hk : 20 < k) : nmB l (k + 1) = 65537 := by
  rw [nmB_next h]
  have h1 : 2 ^ 21 ≤ 2 ^ k := Nat.pow_le_pow_right (by decide) (by omega)
  have h2 : 2 ^ k ≤ ((bA l k).toNat + 1) * 2 ^ k := Nat.le_mul_of_pos_left _ (by omega)
  have h3 : (2 : Nat) ^ 21 = 2097152 := by decide
  omega
theorem numberB_any (A : Option Addr) (n c : Nat) (l : List UInt8) (w : World) (hx : Bytes w A n c l) (hn : n ≤ 65536) :
    Calls Tryz.prog 96 #[.slice A n c] w fun e w' => e = .returned (.tuple #[.int .i64 ((nmB l (dgs l) : Nat) : Int), .int .i64 ((dgs l : Nat) : Int)]) ∧ w' = w := by
  have hl := hx.1
  have HX := Lib.hid hx
  have hd := dgs_le l
  rw [hl] at hd
  have H1 : Hid (∀ k, k < n → nmB l (k + 1) = min (nmB l k + ((bA l k).toNat + 1) * 2 ^ k) 65537) := fun k hk => nmB_next (by omega)
  have H2 : Hid (∀ k, k < n → 20 < k → nmB l (k + 1) = 65537) := fun k hk h => nmB_big (by omega) h
  have H3 : Hid (∀ k, k < dgs l → (bA l k).toNat < 2) := fun k hk => dgs_lt hk
  have H4 : Hid (dgs l < n → 2 ≤ (bA l (dgs l)).toNat) := fun h => dgs_end (by omega)
  have H5 : Hid (∀ k, nmB l k ≤ 65537) := fun k => Nat.min_le_right _ _
  have H0 : Hid (nmB l 0 = 0) := rfl
  obtain ⟨v, hv⟩ : ∃ v, v = nmB l := ⟨_, rfl⟩
  obtain ⟨dg, hdg⟩ : ∃ d, d = dgs l := ⟨_, rfl⟩
  rw [← hv] at H0 H1 H2 H5 ⊢
  rw [← hdg] at H3 H4 hd ⊢
  clear hv hdg hx hl
  go_enter Tryz.func96, Tryz.ntmps96
  go_wp2_with fail
  go_loop [4, 5] (fun q i => ∃ k : Nat, k ≤ dg ∧ i = .int .i64 (k : Int) ∧ q = .int .i64 ((v k : Nat) : Int)) (fun _ i => n - (intOf i).toNat)
  case atStart => exact ⟨0, Nat.zero_le _, rfl, by rw [H0.out]; rfl⟩
  case round =>
    obtain ⟨k, hk, rfl, rfl⟩ := hrel
    by_cases hlt : k < n
    · have d0 : decide ((k : Int) < (n : Int)) = true := decide_eq_true (by omega)
      have d0' : decide (k < n) = true := decide_eq_true hlt
      obtain ⟨b1, o1, rfl, -, hc⟩ := HX.out.2.2 (by omega)
      have c1 : w.cell? ⟨b1, o1 + k, none⟩ = some (.int .u8 ((bA l k).toNat : Int)) := hc k hlt
      have hcap := HX.out.2.1
      by_cases hkd : k < dg
      · have hb2 := H3.out k hkd
        have h1 := H1.out k hlt
        have h2 := H2.out k hlt
        have h5 := H5.out k
        obtain ⟨b, hb⟩ : ∃ b, b = (bA l k).toNat := ⟨_, rfl⟩
        rw [← hb] at c1 hb2 h1
        obtain ⟨x, hx⟩ : ∃ x, x = v k := ⟨_, rfl⟩
        rw [← hx] at h1 h5 ⊢
        obtain ⟨y, hy⟩ : ∃ y, y = v (k + 1) := ⟨_, rfl⟩
        rw [← hy] at h1 h2
        have HY := Lib.hid hy
        have d1 : decide ((b : Int) ≤ 1) = true := decide_eq_true (by omega)
        have d1' : decide (b ≤ 1) = true := decide_eq_true (by omega)
        clear hb hx hy hc
        by_cases h20 : 20 < k
        · have d2 : decide ((20 : Int) < (k : Int)) = true := decide_eq_true (by omega)
          have d2' : decide (20 < k) = true := decide_eq_true h20
          have hy := h2 h20
          clear h1 h2 h20
          go_wp2_with fail
          go_round
          case rel => exact ⟨k + 1, by omega, by go_num, by rw [← HY.out, hy]; rfl⟩
          case measure => (simp [intOf]) <;> omega
        · have d2 : decide ((20 : Int) < (k : Int)) = false := decide_eq_false (by omega)
          have d2' : decide (20 < k) = false := decide_eq_false h20
          clear h2
          have hp : 2 ^ k ≤ 2 ^ 20 := Nat.pow_le_pow_right (by decide) (by omega)
          have e20 : (2 : Nat) ^ 20 = 1048576 := by decide
          rw [e20] at hp
          obtain ⟨P, hP⟩ : ∃ P, P = (b + 1) * 2 ^ k := ⟨_, rfl⟩
          have hPI : ((b : Int) + 1) * 2 ^ k = ((P : Nat) : Int) := by rw [hP]; push_cast; rfl
          have hPle : P ≤ 2 * 1048576 := by rw [hP]; exact Nat.mul_le_mul (by omega) hp
          have w1 : wrap64 (((b : Int) + 1) * 2 ^ k) = ((P : Nat) : Int) := by rw [hPI]; exact w64b P (Nat.le_trans hPle (by decide))
          have w2 : wrap64 ((x : Int) + ((P : Nat) : Int)) = ((x + P : Nat) : Int) := (congrArg wrap64 (Int.natCast_add x P).symm).trans (w64b _ (Nat.le_trans (Nat.add_le_add h5 hPle) (by decide)))
          rw [← hP] at h1
          have HW := Lib.hid (And.intro w1 (And.intro w2 h1))
          clear hP hPI hPle w1 w2 h1 hp e20
          go_wp2_with fail
          go_round
          case rel =>
            refine ⟨k + 1, by omega, by go_num, ?_⟩
            rw [HW.out.1, HW.out.2.1, ← HY.out, HW.out.2.2]
            exact congrArg (Value.int .i64) (min_cast _)
          case measure => (simp [intOf]) <;> omega
      · obtain rfl : k = dg := by omega
        have hb2 := H4.out hlt
        obtain ⟨b, hb⟩ : ∃ b, b = (bA l k).toNat := ⟨_, rfl⟩
        rw [← hb] at c1 hb2
        have d1 : decide ((b : Int) ≤ 1) = false := decide_eq_false (by omega)
        have d1' : decide (b ≤ 1) = false := decide_eq_false (by omega)
        clear hb hc
        go_wp2_with fail
        go_ret2
        exact ⟨rfl, rfl⟩
    · obtain rfl : n = k := by omega
      obtain rfl : n = dg := by omega
      have d0 : decide ((n : Int) < (n : Int)) = false := decide_eq_false (by omega)
      have d0' : decide (n < n) = false := decide_eq_false (by omega)
      go_wp2_with fail
      go_ret2
      exact ⟨rfl, rfl⟩
end Go.Proofs.YtohadkmaemmfgaaGreatDoor
