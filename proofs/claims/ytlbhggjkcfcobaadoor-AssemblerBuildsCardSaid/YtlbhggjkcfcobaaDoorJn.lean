/- The arguments of AssemblerBuilds, opened; its laid tables. -/
import Derived.Test.YtlbhggjkcfcobaaDoorLt
import Derived.Test.YtlbhggjkcfcobaaDoorJm
import Derived.Lib.LaidIn
import Derived.LaidSub
import Derived.PinnedBridge
import Derived.OpenShut
import Derived.Lib.SmallJoins
import Derived.Deep.Slices
import Derived.Deep.Strs
import Derived.ChangeArms
namespace Go.Proofs.YtlbhggjkcfcobaaDoor
open Go.RowKit Go.Proofs Go.Lib Go.Joins Go.ChangeShapes Go.WideShapes Go.Deep
set_option linter.unusedVariables false
set_option linter.unusedSimpArgs false

def TabB (w : World) : Prop := ErrR w ∧ TabI w ∧ T64 w
theorem tabB_of {W : World} (h : laidMet Tryd.prog laidE W) : TabB W := by
  refine ⟨errR_of h, ?_, ?_⟩
  · have h1 := h.filter (fun x => x.1 == "internal/strconv.uint64pow10")
    have e : laidE.filter (fun x => x.1 == "internal/strconv.uint64pow10") = [("internal/strconv.uint64pow10", tabData .u64 Lib.pow10Tab)] := by kernel_rfl
    rw [e] at h1
    exact tabIs_of_head (g := 0) (t := 144) (e := 80) (n := 20) (by kernel_rfl) (by kernel_rfl) (by kernel_rfl) (by kernel_rfl) (by kernel_rfl) (by kernel_rfl) h1
  · have h1 := h.filter (fun x => x.1 == "math/bits.deBruijn64tab")
    have e : laidE.filter (fun x => x.1 == "math/bits.deBruijn64tab") = [("math/bits.deBruijn64tab", tabData .u8 [0, 1, 56, 2, 57, 49, 28, 3, 61, 58, 42, 50, 38, 29, 17, 4, 62, 47, 59, 36, 45, 43, 51, 22, 53, 39, 33, 30, 24, 18, 12, 5, 63, 55, 48, 27, 60, 41, 37, 16, 46, 35, 44, 21, 52, 32, 23, 11, 54, 26, 40, 15, 34, 20, 31, 10, 25, 14, 19, 9, 13, 8, 7, 6])] := by kernel_rfl
    rw [e] at h1
    have h2 := tabIs_of_head (g := 5) (t := 169) (e := 5) (n := 64) (by kernel_rfl) (by kernel_rfl) (by kernel_rfl) (by kernel_rfl) (by kernel_rfl) (by kernel_rfl) h1
    exact h2.cell (g := 5) (by kernel_rfl) 15 (by decide)
theorem cell_blkJ {w : World} {a : Addr} {v : Value} (h : w.cell? a = some v) : a.block < w.heap.size := by
  rcases Nat.lt_or_ge a.block w.heap.size with hlt | hge
  · exact hlt
  · exfalso
    have e : w.heap[a.block]? = none := Array.getElem?_eq_none hge
    simp [World.cell?, e] at h
def vIJ : Value → Int | .int _ z => z | _ => 0
def vBJ : Value → Bool | .bool b => b | _ => false
section
variable {H : Type} {enc : TypeId × Value → H} {W : World}
theorem bytes_of_trod {fuel : Nat} {v : Value} {x : DataW H × List MemPlace} (h : DataW.trod enc Tryd.prog W 0 (fun _ => true) true fuel 41 [v] = some x) : ∃ A n c bs, v = .slice A n c ∧ Bytes W A n c bs ∧ n ≤ maxLen := by
  rcases open_slice1 (Tryd.underlying41) (by kernel_rfl) h with ⟨hcs, -⟩ | ⟨a, len, cap, m, k, V, D, Pl, hcs, -, hl, hmx, hm, -, hx⟩
  · simp only [List.cons.injEq, and_true] at hcs
    exact ⟨none, 0, 0, [], hcs, ⟨rfl, Nat.le_refl _, fun h => absurd h (by omega)⟩, Nat.zero_le _⟩
  · simp only [List.cons.injEq, and_true] at hcs
    rw [if_pos rfl] at hm
    subst hm
    have hV : ∀ i, i < m → ∃ z : Int, V i = .int .u8 z ∧ 0 ≤ z ∧ z < 256 := fun i hi => by
      obtain ⟨-, h0⟩ := hx i hi
      obtain ⟨z, hz, -, hw⟩ := DataW.trod_int (Tryd.underlying5) h0
      have : 0 ≤ z ∧ z < 256 := by
        simp [Lit.wf, IntKind.min, IntKind.max, IntKind.bits, IntKind.signed] at hw
        omega
      exact ⟨z, by simpa using hz, this.1, this.2⟩
    refine ⟨some a, len, m, (List.range len).map fun i => UInt8.ofNat (vIJ (V i)).toNat, hcs, ⟨by simp, hl, fun hn => ?_⟩, by omega⟩
    obtain ⟨h0, -⟩ := hx 0 (by omega)
    obtain ⟨b, off, sp⟩ := a
    have hsp : sp = none := by
      have := World.cell?_spot h0
      simpa [Addr.add] using this
    subst hsp
    refine ⟨b, off, rfl, ?_, fun i hi => ?_⟩
    · have := cell_blkJ h0
      rwa [addr_add] at this
    · obtain ⟨h0, -⟩ := hx i (by omega)
      obtain ⟨z, e0, z0, z1⟩ := hV i (by omega)
      rw [addr_add] at h0
      rw [h0, e0]
      have e : ((List.range len).map fun i => UInt8.ofNat (vIJ (V i)).toNat).getD i 0 = UInt8.ofNat z.toNat := by simp [List.getD, hi, e0, vIJ]
      show _ = some (Value.int .u8 ((((List.range len).map fun i => UInt8.ofNat (vIJ (V i)).toNat).getD i 0).toNat : Int))
      rw [e]
      have : (UInt8.ofNat z.toNat).toNat = z.toNat := by simp; omega
      rw [this, Int.toNat_of_nonneg z0]
theorem items_of_trod {fuel : Nat} {v : Value} {x : DataW H × List MemPlace} (h : DataW.trod enc Tryd.prog W 0 (fun _ => true) true fuel 42 [v] = some x) : ∃ A n c l, v = .slice A n c ∧ ItemsM W A n c l ∧ n ≤ maxLen := by
  rcases open_slice (Tryd.underlying42) h with ⟨hcs, -⟩ | ⟨a, len, cap, m, k, D, Pl, hcs, -, hl, hmx, hm, -, hx⟩
  · simp only [List.cons.injEq, and_true] at hcs
    exact ⟨none, 0, 0, [], hcs, ⟨rfl, Nat.le_refl _, (fun x hx => by cases hx), fun h => absurd h (by omega)⟩, Nat.zero_le _⟩
  · simp only [List.cons.injEq, and_true] at hcs
    rw [if_pos rfl] at hm
    subst hm
    have hce : Tryd.prog.cellsOf 55 = 3 := by kernel_rfl
    have each : ∀ i, i < m → ∃ (o z : Int) (hb : Bool), W.cell? ((a.add (i * 3)).add 0) = some (.int .u8 o) ∧ W.cell? ((a.add (i * 3)).add 1) = some (.int .u32 z) ∧ W.cell? ((a.add (i * 3)).add 2) = some (.bool hb) ∧ 0 ≤ o ∧ o < 256 ∧ 0 ≤ z ∧ z < 4294967296 := fun i hi => by
      obtain ⟨cs', h1, h2⟩ := hx i hi
      rw [hce] at h1
      obtain ⟨_, hlen, hcell⟩ := World.cells?_some h1
      obtain ⟨y0, y1, y2, n', -, -, g0, g1, g2⟩ := trod_struct3 (Tryd.underlying55) h2
      obtain ⟨v0, v1, v2, rfl⟩ : ∃ v0 v1 v2, cs' = [v0, v1, v2] := by
        rcases cs' with _ | ⟨v0, _ | ⟨v1, _ | ⟨v2, _ | ⟨v3, t⟩⟩⟩⟩
        · simp only [List.length_nil] at hlen; omega
        · simp only [List.length_cons, List.length_nil] at hlen; omega
        · simp only [List.length_cons, List.length_nil] at hlen; omega
        · exact ⟨v0, v1, v2, rfl⟩
        · simp only [List.length_cons] at hlen; omega
      have c8 : Tryd.prog.cellsOf 5 = 1 := by kernel_rfl
      have c32 : Tryd.prog.cellsOf 53 = 1 := by kernel_rfl
      have cb : Tryd.prog.cellsOf 4 = 1 := by kernel_rfl
      simp only [c8, c32, cb] at g0 g1 g2
      obtain ⟨o, ho, -, hwo⟩ := DataW.trod_int (Tryd.underlying5) g0
      obtain ⟨z, hz, -, hwz⟩ := DataW.trod_int (Tryd.underlying53) g1
      obtain ⟨hb, hhb, -⟩ := DataW.trod_bool (Tryd.underlying4) g2
      have e0 : v0 = .int .u8 o := by simpa using ho
      have e1 : v1 = .int .u32 z := by simpa using hz
      have e2 : v2 = .bool hb := by simpa using hhb
      have b0 : 0 ≤ o ∧ o < 256 := by
        simp [Lit.wf, IntKind.min, IntKind.max, IntKind.bits, IntKind.signed] at hwo
        omega
      have b1 : 0 ≤ z ∧ z < 4294967296 := by
        simp [Lit.wf, IntKind.min, IntKind.max, IntKind.bits, IntKind.signed] at hwz
        omega
      exact ⟨o, z, hb, (hcell 0 (by omega)).trans (by rw [← e0]; rfl), (hcell 1 (by omega)).trans (by rw [← e1]; rfl), (hcell 2 (by omega)).trans (by rw [← e2]; rfl), b0.1, b0.2, b1.1, b1.2⟩
    obtain ⟨G, hG⟩ : ∃ G : Nat → It, ∀ i, i < m → W.cell? ((a.add (i * 3)).add 0) = some (.int .u8 ((G i).1.toNat : Int)) ∧ W.cell? ((a.add (i * 3)).add 1) = some (.int .u32 ((G i).2.1 : Int)) ∧ W.cell? ((a.add (i * 3)).add 2) = some (.bool (G i).2.2) ∧ (G i).2.1 < 4294967296 := by
      refine ⟨fun i => (UInt8.ofNat (vIJ ((W.cell? ((a.add (i * 3)).add 0)).getD (.bool false))).toNat, (vIJ ((W.cell? ((a.add (i * 3)).add 1)).getD (.bool false))).toNat, vBJ ((W.cell? ((a.add (i * 3)).add 2)).getD (.bool false))), fun i hi => ?_⟩
      obtain ⟨o, z, hb, h0, h1, h2, b0, b1, b2, b3⟩ := each i hi
      dsimp only
      rw [h0, h1, h2]
      dsimp only [Option.getD_some, vIJ, vBJ]
      have e : (UInt8.ofNat o.toNat).toNat = o.toNat := by simp; omega
      rw [e, Int.toNat_of_nonneg b0, Int.toNat_of_nonneg b2]
      exact ⟨rfl, rfl, rfl, by omega⟩
    have hg : ∀ i, i < len → gIt ((List.range len).map G) i = G i := fun i hi => by simp [gIt, List.getD, hi]
    refine ⟨some a, len, m, (List.range len).map G, hcs, ⟨by simp, hl, fun y hy => ?_, fun hn => ?_⟩, by omega⟩
    · obtain ⟨i, hi, rfl⟩ := List.mem_map.1 hy
      exact (hG i (by have := List.mem_range.1 hi; omega)).2.2.2
    · obtain ⟨h0, -⟩ := hG 0 (by omega)
      obtain ⟨b, off, sp⟩ := a
      have hsp : sp = none := by
        have := World.cell?_spot h0
        simpa [Addr.add] using this
      subst hsp
      refine ⟨b, off, rfl, ?_, fun i hi => ?_⟩
      · have := cell_blkJ h0
        rwa [addr_add, addr_add] at this
      · obtain ⟨h0, h1, h2, -⟩ := hG i (by omega)
        rw [addr_add, addr_add] at h0 h1 h2
        rw [hg i hi]
        exact ⟨h0, h1, h2⟩
end
end Go.Proofs.YtlbhggjkcfcobaaDoor
