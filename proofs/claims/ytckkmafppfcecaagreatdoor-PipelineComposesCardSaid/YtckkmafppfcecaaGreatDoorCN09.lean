/- Zk. -/
import Derived.Test.YtckkmafppfcecaaGreatDoorCN01
import Derived.Test.YtckkmafppfcecaaGreatDoorCN00
/- Bytes: results, copies, a block that is known. -/
namespace Go.Proofs.YtckkmafppfcecaaGreatDoor
open Go.RowKit Go.Proofs
set_option linter.unusedVariables false
set_option linter.unusedSimpArgs false

/-- a result: bytes and a number. -/
def RetBytes (w : World) (bs : List UInt8) (x : Int) (e : Ending) (w' : World) : Prop := ∃ A n c, e = .returned (.tuple #[.slice A n c, .int .i64 x]) ∧ Bytes w' A n c bs ∧ Below w.heap.size w w'
theorem RetBytes.mk {w w' : World} {bs : List UInt8} {x x' : Int} {A : Option Addr} {n c : Nat} (hx : x = x') (h : Bytes w' A n c bs) (hb : Below w.heap.size w w') : RetBytes w bs x' (.returned (.tuple #[.slice A n c, .int .i64 x])) w' := by
  subst hx
  exact ⟨A, n, c, rfl, h, hb⟩
theorem RetBytes.err {w w' : World} {x x' : Int} (hx : x = x') (hb : Below w.heap.size w w') : RetBytes w [] x' (.returned (.tuple #[.slice none 0 0, .int .i64 x])) w' := RetBytes.mk hx (Bytes.nil _ _) hb
/-- a result: bytes of the call's own. -/
def RetOwn (B : Nat) (w : World) (xs : List UInt8) (e : Ending) (w' : World) : Prop := ∃ A n c, e = .returned (.slice A n c) ∧ Own encB w' B 5 A n c xs ∧ Below B w w'
theorem RetOwn.mk {B : Nat} {w w' : World} {xs : List UInt8} {A : Option Addr} {n c : Nat} (h : Own encB w' B 5 A n c xs) (hb : Below B w w') : RetOwn B w xs (.returned (.slice A n c)) w' := ⟨A, n, c, rfl, h, hb⟩
theorem own_empty (w : World) (e : TypeId) : Own encB (w.alloc (.cells #[] e)) w.heap.size e (some ⟨w.heap.size, 0, none⟩) 0 0 [] :=
  ⟨rfl, .inr ⟨w.heap.size, 0, #[], rfl, Nat.le_refl _, World.alloc_heap_new w _, Nat.le_refl _, by simp [maxLen], rfl, rfl⟩⟩
set_option maxHeartbeats 1000000 in
theorem clone_any (A : Option Addr) (m c : Nat) (xs : List UInt8) (w : World) (hx : Bytes w A m c xs) (hm : m ≤ 1000000) :
    Calls Tryz.prog 31 #[.slice A m c] w (RetOwn w.heap.size w xs) := by
  have hq := Lib.run_eql_slice_nil (P := Tryz.prog)
  cases A with
  | none =>
    have h0 : m = 0 := by
      rcases Nat.eq_zero_or_pos m with h | h
      · exact h
      · obtain ⟨b, off, e, _⟩ := hx.2.2 h; cases e
    subst h0
    have hxs : xs = [] := List.length_eq_zero_iff.1 hx.1
    subst hxs
    have hr : ∀ w : World, (binOp .eql 23 (.slice none 0 c) (.slice none 0 0)).run Tryz.prog w = .ok (.bool true) w := fun w => by rw [hq w _ _ _ _ _ _ _ uB]; rfl
    clear hq
    go_enter Tryz.func31, Tryz.ntmps31
    go_wp2_with fail
    go_ret
    exact RetOwn.mk (Own.nil _ _ _ _) (Below.refl _ _)
  | some a =>
    have hr : ∀ w : World, (binOp .eql 23 (.slice (some a) m c) (.slice none 0 0)).run Tryz.prog w = .ok (.bool false) w := fun w => by rw [hq w _ _ _ _ _ _ _ uB]; rfl
    clear hq
    have hb0 : Below w.heap.size w (w.alloc (.cells #[] 5)) := (Below.refl _ _).alloc (Nat.le_refl _) _
    have hx1 := hx.below hb0
    have m1 : Hid (0 + m ≤ maxLen ∧ (0 + m) * 1 ≤ 140737488355328) := ⟨by simp [maxLen]; omega, by omega⟩
    have hB : Hid (w.heap.size ≤ (w.alloc (.cells #[] 5)).heap.size) := hb0.size
    go_enter Tryz.func31, Tryz.ntmps31
    go_wp2_with (at_builtin; refine wpList_app (enc := encB) rfl (.tmp 5) (.tmp 6) rfl uB infoB encB_one rfl rfl (own_empty w _) hB.out (some a) m c xs 0 hx1.1 hx1.2.2 rfl m1.out.1 m1.out.2 ?_; intro A6 c6 W6 ho6 hb6 hg6)
    go_ret
    rw [List.nil_append, Nat.zero_add] at ho6
    exact RetOwn.mk ho6 (hb0.trans hb6)

/-- block g begins with the bytes bs. -/
def RowB (w : World) (g n : Nat) (bs : List UInt8) : Prop := bs.length = n ∧ ∃ cur t, w.heap[g]? = some (.cells cur t (0, 0)) ∧ n ≤ cur.size ∧ ∀ i, i < n → cur[i]? = some (.int .u8 (gb bs i))
theorem gb_bA (bs : List UInt8) (i : Nat) : gb bs i = ((bA bs i).toNat : Int) := rfl
section
variable {w w' : World} {g n k : Nat} {bs : List UInt8}
theorem RowB.lt (h : RowB w g n bs) : g < w.heap.size := by
  obtain ⟨-, cur, t, h1, -⟩ := h
  exact (Array.getElem?_eq_some_iff.1 h1).1
theorem RowB.below {B : Nat} (h : RowB w g n bs) (hb : Below B w w') (hg : g < B) : RowB w' g n bs := by
  obtain ⟨h0, cur, t, h1, h2⟩ := h
  exact ⟨h0, cur, t, (hb.block g hg).trans h1, h2⟩
theorem RowB.keep (h : RowB w g n bs) (he : w'.heap[g]? = w.heap[g]?) : RowB w' g n bs := by
  obtain ⟨h0, cur, t, h1, h2⟩ := h
  exact ⟨h0, cur, t, he.trans h1, h2⟩
theorem RowB.cell (h : RowB w g n bs) (hk : k < n) : w.cell? ⟨g, k, none⟩ = some (.int .u8 (gb bs k)) := by
  obtain ⟨h0, cur, t, h1, h2, h3⟩ := h
  simp [World.cell?, h1, h3 k hk]
theorem RowB.frozen (h : RowB w g n bs) (k : Nat) : w.frozen? ⟨g, k, none⟩ = false := by
  obtain ⟨h0, cur, t, h1, h2, h3⟩ := h
  simp [World.frozen?, h1]
theorem RowB.bytes (h : RowB w g n bs) {c : Nat} (hc : n ≤ c) : Bytes w (some ⟨g, 0, none⟩) n c bs :=
  ⟨h.1, hc, fun _ => ⟨g, 0, rfl, h.lt, fun i hi => by rw [Nat.zero_add]; exact h.cell hi⟩⟩
theorem RowB.set (h : RowB w g n bs) (hk : k < n) (b : UInt8) : RowB (w.setCell ⟨g, k, none⟩ (.int .u8 (b.toNat : Int))) g n (bs.set k b) := by
  obtain ⟨h0, cur, t, h1, h2, h3⟩ := h
  refine ⟨by rw [List.length_set]; exact h0, cur.setIfInBounds k (.int .u8 (b.toNat : Int)), t, ?_, by simpa using h2, fun i hi => ?_⟩
  · simp [World.setCell, Array.getElem?_modify, h1]
  · rw [Array.getElem?_setIfInBounds]
    unfold gb
    rw [List.getD_eq_getElem?_getD, List.getElem?_set]
    by_cases e : k = i
    · subst e
      rw [if_pos rfl, if_pos (by omega), if_pos rfl, if_pos (by omega)]
      rfl
    · rw [if_neg e, if_neg e]
      have := h3 i hi
      unfold gb at this
      rw [List.getD_eq_getElem?_getD] at this
      exact this
theorem RowB.of_own {B c : Nat} {A : Option Addr} (h : Own encB w B 5 A n c bs) (hn : 0 < n) : ∃ g, A = some ⟨g, 0, none⟩ ∧ B ≤ g ∧ RowB w g n bs := by
  have hl := h.length
  have hcs := h.cells 0
  rcases h.2 with ⟨h1, h2⟩ | ⟨g, cap, cur, h1, h2, h3, h4⟩
  · omega
  · injection h1 with e1 e2 e3
    refine ⟨g, e1, h2, hl, cur, _, h3, ?_, fun i hi => ?_⟩
    · obtain ⟨b, off, e, hlt, hc⟩ := hcs hn
      rw [e1] at e
      injection e with e
      injection e with e e' _
      subst e e'
      have := hc (n - 1) (by omega)
      rw [Nat.zero_add] at this
      simp [World.cell?, h3] at this
      have := (Array.getElem?_eq_some_iff.1 this).1
      omega
    · obtain ⟨b, off, e, hlt, hc⟩ := hcs hn
      rw [e1] at e
      injection e with e
      injection e with e e' _
      subst e e'
      have := hc i hi
      rw [Nat.zero_add] at this
      simp [World.cell?, h3] at this
      exact this
end
end Go.Proofs.YtckkmafppfcecaaGreatDoor
