/- slices.Reverse at []byte (the kit's walk of it at []int, turned to bytes). -/
import Derived.Test.YtoodfmilleodaaaBf
import Derived.Sort.WalkB12
import Derived.Lib.SlicesMore
import Derived.Deep.LoopGhost
import Derived.Shelf.RegionOpenPlain
import Derived.Lib.Walk
import Derived.Lib.OwnBridge
import Derived.Laws.MakeOwn
namespace Go.Proofs.Ytoodfmilleodaaa
open Go.Shelf Go.RowKit Go.Lib Go.Sort
set_option linter.unusedVariables false

set_option maxHeartbeats 1600000 in
set_option maxRecDepth 1000000 in
theorem reverse_arr (blk off cap : Nat) (d : Array UInt8) (w : World) (hH : Holds encB w blk off d) (hsz : d.size ≤ 9223372036854775807) :
    Calls Try.prog 61 #[.slice (some ⟨blk, off, none⟩) d.size cap] w fun e w' => e = .returned (.tuple #[]) ∧ ∃ n, w' = putRow encB (Sort.ahead w n) blk off d.reverse := by
  go_enter Try.func61, Try.ntmps61
  go_wp2
  go_loopg [2, 3] d.size (fun k s2 s3 wr => ∃ (i jn : Nat) (jz : Int) (dk : Array UInt8) (n : Nat), s2 = .int .i64 i ∧ s3 = .int .i64 jz ∧ ((i : Int) < jz → jz = jn ∧ jn < d.size) ∧ (¬ (i : Int) < jz → ¬ i < jn) ∧ jn - i ≤ k ∧
    dk.size = d.size ∧ wr = putRow encB (Sort.ahead w n) blk off dk ∧ reverseLoop i jn dk = reverseLoop 0 (d.size - 1) d)
  case atStart => exact ⟨0, d.size - 1, (d.size : Int) - 1, d, 0, rfl, rfl, fun h => ⟨by omega, by omega⟩, fun h => by omega, by omega, rfl, (putRow_self encB w blk off d hH).symm, rfl⟩
  case round =>
    obtain ⟨i, jn, jz, dk, n, rfl, rfl, h1, h2, hk, hds, hwr, heq⟩ := hrel
    by_cases hlt : (i : Int) < jz
    · obtain ⟨rfl, hjn⟩ := h1 hlt
      have hij : i < jn := by omega
      have hHk : Holds encB wr blk off dk := by rw [hwr]; exact holds_putRow encB _ blk off d dk (holds_ahead encB w n blk off d hH) hds
      obtain ⟨ci, fi⟩ := hHk i (by omega)
      obtain ⟨cj, fj⟩ := hHk jn (by omega)
      have A : Aside (wr = putRow encB (Sort.ahead w n) blk off dk) := hwr
      unfold encB at ci cj
      have mixed : Try.prog.follows .mixedOrders = true := by kernel_rfl
      have hid : i < d.size := by omega
      clear hwr hHk hH h1 h2
      go_wp2_with fail
      go_region_o
      go_wp2
      go_roundg (jn - 1 - (i + 1))
      case measure => omega
      case rel =>
        rw [reverseLoop, if_pos hij] at heq
        exact ⟨i + 1, jn - 1, (jn : Int) - 1, swp dk i jn, n + 1, by simp, rfl, fun h => ⟨by omega, by omega⟩, fun h => by omega, Nat.le_refl _, by rw [size_swp]; exact hds,
          swap_world encB (by omega) (by omega) A.out (by first | rfl | simp [encB, getElem!_pos, show jn < dk.size by omega]) (by first | rfl | simp [encB, getElem!_pos, show i < dk.size by omega]), heq⟩
    · have hnot := h2 hlt
      go_wp2
      go_end0
      refine ⟨rfl, n, ?_⟩
      rw [reverseLoop, if_neg hnot] at heq
      rw [← Lib.reverseLoop_reverse, ← heq]

set_option maxHeartbeats 1000000 in
theorem reverse_empty (a : Option Addr) (cap : Nat) (w : World) :
    Calls Try.prog 61 #[.slice a 0 cap] w fun e w' => e = .returned (.tuple #[]) ∧ w' = w := by
  go_enter Try.func61, Try.ntmps61
  go_wp2
  go_loopg [2, 3] 0 (fun _ s2 s3 wr => s2 = .int .i64 0 ∧ s3 = .int .i64 (-1) ∧ wr = w)
  case atStart => exact ⟨rfl, rfl, rfl⟩
  case round =>
    obtain ⟨rfl, rfl, rfl⟩ := hrel
    go_wp2
    go_end0
    exact ⟨rfl, rfl⟩

/-- slices.Reverse of a slice of the call's own. -/
theorem reverse_own {A : Option Addr} {n c B : Nat} {xs : List UInt8} {w : World} {e : TypeId} (h : Own encB w B e A n c xs) :
    Calls Try.prog 61 #[.slice A n c] w fun e' w' => e' = .returned (.tuple #[]) ∧ Own encB w' B e A n c xs.reverse ∧ w.grownBy w' (Value.slice A n c).ownBlock := by
  have hl := h.length
  by_cases hv : Value.slice A n c = .slice none 0 0
  · injection hv with h1 h2 h3
    subst h1 h2 h3
    obtain rfl : xs = [] := List.length_eq_zero_iff.1 hl
    refine (reverse_empty none 0 w).mono ?_
    rintro e' w' ⟨rfl, rfl⟩
    exact ⟨rfl, h, World.grownBy.refl _ _⟩
  · obtain ⟨g, cap, hv', hB, hlt, hnc, hm, hlen, hH⟩ := Lib.holds_of_ownsRow h hv
    injection hv' with h1 h2 h3
    subst h1 h3
    have hsz : xs.toArray.size = n := by simpa using hlen
    have hc := reverse_arr g 0 c xs.toArray w hH (by rw [hsz]; simp [maxLen] at hm; omega)
    rw [hsz] at hc
    refine hc.mono ?_
    rintro e' w' ⟨rfl, q, rfl⟩
    refine ⟨rfl, ?_, ?_⟩
    · have := Lib.ownsRow_putRow (q := q) (k := n) (ys := xs.reverse) h (by simp; omega) (Nat.le_refl _)
      rw [List.take_of_length_le (by simp; omega)] at this
      unfold Own
      simpa using this
    · refine ⟨rfl, rfl, rfl, by simp [putRow, mapBlock, Sort.ahead], fun k hk hne => ?_⟩
      have hne' : ¬ g = k := fun e => hne (by rw [e]; rfl)
      simp [putRow, mapBlock, Sort.ahead, Array.getElem?_modify, hne']

/-- make of no element, with room for c. -/
theorem run_make_cap {α : Type} {enc : α → Value} {P : Program} {t e : TypeId} {zero : α} {bytes : Nat} (ht : P.underlying t = some (.slice e)) (hi : (P.info? e).map (fun i => (i.zero, i.size, i.bytes)) = some (some (enc zero), 1, bytes))
    (h1 : (enc zero).cells = #[enc zero]) (c : Nat) (hb : (bytes : Int) * c ≤ 281474976710656) (hm : (c : Int) ≤ 9223372036854775807) (W : World) :
    (Instr.makeSlice t (.int .i64 0) (.int .i64 (c : Int))).run P W = .ok (.slice (some ⟨W.heap.size, 0, none⟩) 0 c) (W.alloc (rowObj enc e (List.replicate c zero))) := by
  obtain ⟨i, hi0, hz, hs, hby⟩ := info_parts hi
  rw [run_make W t e i (enc zero) ht hi0 hz .i64 .i64 0 c (by omega) (by omega) (by rw [hby]; exact hb) hm, hs, madeCells_rep _ _ h1]
  simp [rowObj]
theorem Own.made {α : Type} {enc : α → Value} (w : World) (e : TypeId) (zero : α) (c : Nat) {B : Nat} (hB : B ≤ w.heap.size) (hc : c ≤ maxLen) : Own enc (w.alloc (rowObj enc e (List.replicate c zero))) B e (some ⟨w.heap.size, 0, none⟩) 0 c [] :=
  World.ownsRow_made w _ c hB hc (by simp)
theorem Own.keepT {α : Type} {enc : α → Value} {X Y : World} {B : Nat} {e : TypeId} {A : Option Addr} {n c : Nat} {xs : List α} (h : Own enc X B e A n c xs) (hb : ∀ g cur, B ≤ g → X.heap[g]? = some (.cells cur e (0, 0)) → Y.heap[g]? = some (.cells cur e (0, 0))) : Own enc Y B e A n c xs := by
  refine ⟨h.1, ?_⟩
  rcases h.2 with h1 | ⟨g, cap, cur, h1, h2, h3, h4⟩
  · exact .inl h1
  · exact .inr ⟨g, cap, cur, h1, h2, hb g _ h2 h3, h4⟩
theorem Own.type {α : Type} {enc : α → Value} {w : World} {B : Nat} {e : TypeId} {A : Option Addr} {n c : Nat} {xs : List α} (h : Own enc w B e A n c xs) {g : Nat} (hg : (Value.slice A n c).ownBlock = some g) : B ≤ g ∧ ∃ cur, w.heap[g]? = some (.cells cur e (0, 0)) := by
  rcases h.2 with ⟨h1, _⟩ | ⟨g', cap, cur, h1, h2, h3, _⟩
  · rw [h1] at hg; cases hg
  · rw [h1] at hg
    injection hg with hg
    have hg' : g' = g := hg
    subst hg'
    exact ⟨h2, cur, h3⟩
section
variable {α : Type} {enc : α → Value} {P : Program} {w : World} {B : Nat} {e t : TypeId} {A : Option Addr} {n c : Nat} {xs : List α} {zero : α} {bytes : Nat} {F : Fence} {nF : Nat}
  {ops : Array Oper} {rest : List Oper} {o : Oper} {a : Act} {K : Act → World → Prop} {Q : Exit → Act → World → Prop} {E : Prop}
theorem wpListIn_pushg (hgd : o.guard = none) (s x : Operand) (ho : o.op = .call { callee := .builtin .append, args := #[s, x], argTypes := #[t, t] })
    (ht : P.underlying t = some (.slice e)) (hi : (P.info? e).map (fun i => (i.zero, i.size, i.bytes)) = some (some (enc zero), 1, bytes)) (h1 : ∀ x, (enc x).oneCell' = true) (hz : (enc zero).cells.size = 1)
    (hs : a.eval s = .slice A n c) (hown : Own enc w B e A n c xs) (hB : B ≤ w.heap.size) (y : α) (v : Value) (hv : enc y = v)
    (hx : a.eval x = .slice (some ⟨w.heap.size, 0, none⟩) 1 1) (hl : n + 1 ≤ maxLen) (hby : (n + 1) * bytes ≤ 140737488355328)
    (h : ∀ A2 c2 w', Own enc w' B e A2 (n + 1) c2 (xs ++ [y]) → w.grownBy w' (Value.slice A n c).ownBlock → wpListIn F nF P ops Q rest (a.put o.dst (.slice A2 (n + 1) c2)) w') : wpListIn F nF P ops Q (o :: rest) a (w.alloc (.cells #[v] e)) := by
  subst hv
  refine wpListIn_plain hgd fun K' hK' => ?_
  obtain ⟨A2, c2, w', hrun, h2, h3, h4⟩ := run_append_own_one (P := P) o.type ht hi h1 hz hown hB y hl hby
  unfold Oper.wpIn
  refine ⟨by simp [Oper.about, ho, resolve, Target.leads, Sem.run_pure], ?_⟩
  rw [Oper.semAt_plain F _ _ (by rw [ho]; intro c hc'; cases hc')]
  simp [execOp, ho, resolve, invoke, builtin, hs, hx, hrun, Result.andThen]
  exact hK' _ _ (h A2 c2 w' h2 (grownBy.trans' (World.grownBy_alloc w _ _) h4))
end
end Go.Proofs.Ytoodfmilleodaaa
