/- Arguments of a law, opened: bytes, ints. -/
import Derived.Test.YtoodfmilleodaaaBw
import Derived.OpenShut
import Derived.SliceStrings
namespace Go.Proofs.Ytoodfmilleodaaa
open Go.RowKit Go.Proofs
set_option linter.unusedVariables false

theorem cell_lt {w : World} {a : Addr} {v : Value} (h : w.cell? a = some v) : a.block < w.heap.size := by
  rcases Nat.lt_or_ge a.block w.heap.size with hlt | hge
  · exact hlt
  · exfalso
    have e : w.heap[a.block]? = none := Array.getElem?_eq_none hge
    simp [World.cell?, e] at h
theorem cells_of_row {k : IntKind} {w : World} {a : Option Addr} {len cap : Nat} {zs : List Int} (h : (a = none ∧ len = 0 ∧ cap = 0 ∧ zs = []) ∨
    ∃ x, a = some x ∧ len ≤ cap ∧ cap ≤ maxLen ∧ zs.length = cap ∧ (∀ i, i < zs.length → w.cell? (x.add i) = some (.int k (zs.getD i 0))) ∧ ∀ n ∈ zs, (Lit.int k n).wf = true) :
    (zs.take len).length = len ∧ len ≤ cap ∧ (∀ n ∈ zs, (Lit.int k n).wf = true) ∧ Cells w a len (fun i => .int k (gi zs i)) := by
  rcases h with ⟨rfl, rfl, rfl, rfl⟩ | ⟨x, rfl, h1, h2, h3, h4, h5⟩
  · exact ⟨rfl, Nat.le_refl _, fun n hn => by simp at hn, fun h => absurd h (by omega)⟩
  · refine ⟨by simp; omega, h1, h5, fun hn => ?_⟩
    have h0 := h4 0 (by omega)
    obtain ⟨b, off, sp⟩ := x
    have hsp : sp = none := by
      have := World.cell?_spot h0
      simpa [Addr.add] using this
    subst hsp
    refine ⟨b, off, rfl, ?_, fun i hi => ?_⟩
    · have := cell_lt h0
      rwa [addr_add] at this
    · rw [← addr_add]
      exact h4 i (by omega)
theorem bytes_of_row {w : World} {a : Option Addr} {len cap : Nat} {zs : List Int} (h : (a = none ∧ len = 0 ∧ cap = 0 ∧ zs = []) ∨
    ∃ x, a = some x ∧ len ≤ cap ∧ cap ≤ maxLen ∧ zs.length = cap ∧ (∀ i, i < zs.length → w.cell? (x.add i) = some (.int .u8 (zs.getD i 0))) ∧ ∀ n ∈ zs, (Lit.int .u8 n).wf = true) : ∃ bs, Bytes w a len cap bs := by
  obtain ⟨h1, h2, h3, h4⟩ := cells_of_row h
  refine ⟨(zs.take len).map fun z => UInt8.ofNat z.toNat, by rw [List.length_map]; exact h1, h2, fun hn => ?_⟩
  obtain ⟨b, off, hA, hb, hc⟩ := h4 hn
  refine ⟨b, off, hA, hb, fun i hi => ?_⟩
  rw [hc i hi]
  have hl : i < zs.length := by simp at h1; omega
  have hw := bounds_u8 (h3 (gi zs i) (gi_mem hl))
  have e : gb ((zs.take len).map fun z => UInt8.ofNat z.toNat) i = gi zs i := by
    unfold gb
    have hi' : i < (zs.take len).length := by omega
    have e1 : ((zs.take len).map fun z => UInt8.ofNat z.toNat).getD i 0 = UInt8.ofNat (gi zs i).toNat := by
      simp [List.getD, hi, hl, gi]
    rw [e1, UInt8.toNat_ofNat']
    omega
  show some (Value.int .u8 _) = some (Value.int .u8 _)
  rw [e]
theorem ints_of_row {w : World} {a : Option Addr} {len cap : Nat} {zs : List Int} (h : (a = none ∧ len = 0 ∧ cap = 0 ∧ zs = []) ∨
    ∃ x, a = some x ∧ len ≤ cap ∧ cap ≤ maxLen ∧ zs.length = cap ∧ (∀ i, i < zs.length → w.cell? (x.add i) = some (.int .i64 (zs.getD i 0))) ∧ ∀ n ∈ zs, (Lit.int .i64 n).wf = true) : ∃ ys, Ints w a len cap ys := by
  obtain ⟨h1, h2, h3, h4⟩ := cells_of_row h
  refine ⟨zs.take len, h1, h2, fun hn => ?_⟩
  obtain ⟨b, off, hA, hb, hc⟩ := h4 hn
  refine ⟨b, off, hA, hb, fun i hi => ?_⟩
  rw [hc i hi]
  show some (Value.int .i64 _) = some (Value.int .i64 _)
  rw [gi_take _ _ _ hi]


end Go.Proofs.Ytoodfmilleodaaa
