/- Ly Nr. -/
import Derived.Test.YtohadkmaemmfgaaGreatDoorRA07
import Derived.Test.YtohadkmaemmfgaaGreatDoorRows
import Derived.Stop.LaidErr
import Derived.Lib.LaidU8T
import Derived.HandedShaped
import Derived.Shelf.Vars
import Derived.Lib.LaidIn
import Derived.LaidSub
import Derived.PinnedBridge
import Derived.OpenShut
import Derived.Lib.SmallJoins
import Derived.Deep.Slices
import Derived.Deep.SlicePairs
import Derived.ChangeArms
set_option maxRecDepth 100000
set_option maxHeartbeats 4000000
namespace Go.Proofs.YtohadkmaemmfgaaGreatDoor
open Go.RowKit Go.Proofs Go.Lib Go.Joins Go.ChangeShapes Go.WideShapes Go.Deep
set_option linter.unusedVariables false
set_option linter.unusedSimpArgs false
def vI : Value → Int | .int _ z => z | _ => 0
theorem cell_blk {w : World} {a : Addr} {v : Value} (h : w.cell? a = some v) : a.block < w.heap.size := by
  rcases Nat.lt_or_ge a.block w.heap.size with hlt | hge
  · exact hlt
  · exfalso
    have e : w.heap[a.block]? = none := Array.getElem?_eq_none hge
    simp [World.cell?, e] at h
section
variable {H : Type} {enc : TypeId × Value → H} {W : World}
theorem stgs_of_trod {fuel : Nat} {v : Value} {x : DataW H × List MemPlace} (h : DataW.trod enc Tryz.prog W 0 (fun _ => true) true fuel 22 [v] = some x) : ∃ A n c l, v = .slice A n c ∧ Stgs W A n c l ∧ n ≤ maxLen := by
  rcases open_slice_pairs (Tryz.underlying22) (Tryz.underlying50) (by kernel_rfl) rfl rfl (by kernel_rfl) (by kernel_rfl) h with ⟨hcs, -⟩ | ⟨a, len, cap, m, k, V0, V1, D0, D1, P0, P1, hcs, -, hl, hmx, hm, -, hx⟩
  · simp only [List.cons.injEq, and_true] at hcs
    exact ⟨none, 0, 0, [], hcs, ⟨rfl, Nat.le_refl _, by simp, fun h => absurd h (by omega)⟩, Nat.zero_le _⟩
  · simp only [List.cons.injEq, and_true] at hcs
    rw [if_pos rfl] at hm
    subst hm
    have hV : ∀ i, i < m → ∃ o z, V0 i = .int .i64 o ∧ V1 i = .int .i64 z ∧ (Lit.int .i64 o).wf = true ∧ (Lit.int .i64 z).wf = true := fun i hi => by
      obtain ⟨-, -, h0, h1⟩ := hx i hi
      obtain ⟨o, ho, -, hwo⟩ := DataW.trod_int (Tryz.underlying3) h0
      obtain ⟨z, hz, -, hw⟩ := DataW.trod_int (Tryz.underlying3) h1
      exact ⟨o, z, by simpa using ho, by simpa using hz, hwo, hw⟩
    have hg : ∀ i, i < len → sG ((List.range len).map fun i => ((vI (V0 i), vI (V1 i)) : Stg)) i = (vI (V0 i), vI (V1 i)) := fun i hi => by simp [sG, List.getD, hi]
    refine ⟨some a, len, m, (List.range len).map fun i => (vI (V0 i), vI (V1 i)), hcs, ⟨by simp, hl, fun y hy => ?_, fun hn => ?_⟩, by omega⟩
    · obtain ⟨i, hi, rfl⟩ := List.mem_map.1 hy
      obtain ⟨o, z, h1, h2, h3, h4⟩ := hV i (by have := List.mem_range.1 hi; omega)
      dsimp only
      rw [h1, h2]
      exact ⟨h3, h4⟩
    · obtain ⟨h0, h1, -, -⟩ := hx 0 (by omega)
      obtain ⟨b, off, sp⟩ := a
      have hsp : sp = none := by
        have := World.cell?_spot h0
        simpa [Addr.add] using this
      subst hsp
      refine ⟨b, off, rfl, ?_, fun i hi => ?_⟩
      · have := cell_blk h0
        rwa [addr_add] at this
      · obtain ⟨h0, h1, -, -⟩ := hx i (by omega)
        obtain ⟨b', z, e0, e1, -, -⟩ := hV i (by omega)
        rw [addr_add] at h0 h1
        dsimp only
        rw [hg i hi]
        refine ⟨?_, ?_⟩
        · rw [h0, e0]; rfl
        · rw [← Nat.add_assoc] at h1; rw [h1, e1]; rfl
end
theorem starE : "*" ++ "errors.errorString" = "*errors.errorString" := by decide
theorem rowE (u : TypeId) (h : Tryz.prog.typeName? 3 u = some "*errors.errorString") : u = 304 :=
  typeName_ptr_named (nm := "errors.errorString") (by rw [starE]; kernel_rfl) (by kernel_rfl) (by decide) u (by rw [starE]; exact h)
theorem acc_eqY : (Rows.laid_unicode_utf8_acceptRanges : DataW Unit) = acceptData := by kernel_rfl
theorem first_eqY : Rows.laid_unicode_utf8_first = firstData := Pinned.utf8First_eq
def laidY : List (String × DataW Unit) := [("math/bits.deBruijn32tab", Rows.laid_math_bits_deBruijn32tab), ("math/bits.deBruijn64tab", Rows.laid_math_bits_deBruijn64tab), ("internal/strconv.uint64pow10", Rows.laid_internal_strconv_uint64pow10), ("unicode/utf8.acceptRanges", acceptData), ("strconv.ErrRange", Rows.laid_strconv_ErrRange), ("strconv.ErrSyntax", Rows.laid_strconv_ErrSyntax), ("unicode/utf8.first", firstData)]
def laidR : List (String × DataW Unit) := [("math/bits.deBruijn32tab", Rows.laid_math_bits_deBruijn32tab), ("math/bits.deBruijn64tab", Rows.laid_math_bits_deBruijn64tab), ("internal/strconv.uint64pow10", Rows.laid_internal_strconv_uint64pow10), ("unicode/utf8.acceptRanges", Rows.laid_unicode_utf8_acceptRanges), ("strconv.ErrRange", Rows.laid_strconv_ErrRange), ("strconv.ErrSyntax", Rows.laid_strconv_ErrSyntax), ("unicode/utf8.first", Rows.laid_unicode_utf8_first)]
theorem laidY_eq : laidR = laidY := by
  unfold laidR
  rw [acc_eqY, first_eqY]; rfl
def litV : DataW Unit → Value
  | .lit (.int k z) => .int k z
  | _ => .bool false
def cellsD : DataW Unit → List Value
  | .agg l => l.map litV
  | _ => []
theorem errY_of {W : World} (h : laidMet Tryz.prog laidY W) : VarE 1 W ∧ VarE 0 W := by
  constructor
  · have h1 := h.filter (fun x => x.1 == "strconv.ErrRange")
    have e : laidY.filter (fun x => x.1 == "strconv.ErrRange") = [("strconv.ErrRange", Rows.laid_strconv_ErrRange)] := by kernel_rfl
    rw [e] at h1
    have gE : Tryz.prog.globalNamed "strconv.ErrRange" = some 1 := by kernel_rfl
    obtain ⟨a0, s0, hv0, -, -, -⟩ := laid_sentinel (tp := 304) (te := 306) (ts := 9) h1 gE (by kernel_rfl) Tryz.underlying80 rowE Tryz.underlying304 Tryz.underlying306 rfl rfl Tryz.underlying9 (by kernel_rfl) (by kernel_rfl)
    exact ⟨_, by have h0 := World.var?_cell gE hv0 0; simpa using h0, Or.inr ⟨_, _, rfl⟩⟩
  · have h1 := h.filter (fun x => x.1 == "strconv.ErrSyntax")
    have e : laidY.filter (fun x => x.1 == "strconv.ErrSyntax") = [("strconv.ErrSyntax", Rows.laid_strconv_ErrSyntax)] := by kernel_rfl
    rw [e] at h1
    have gE : Tryz.prog.globalNamed "strconv.ErrSyntax" = some 0 := by kernel_rfl
    obtain ⟨a0, s0, hv0, -, -, -⟩ := laid_sentinel (tp := 304) (te := 306) (ts := 9) h1 gE (by kernel_rfl) Tryz.underlying80 rowE Tryz.underlying304 Tryz.underlying306 rfl rfl Tryz.underlying9 (by kernel_rfl) (by kernel_rfl)
    exact ⟨_, by have h0 := World.var?_cell gE hv0 0; simpa using h0, Or.inr ⟨_, _, rfl⟩⟩
theorem tabIY_of {W : World} (h : laidMet Tryz.prog laidY W) : TabI W := by
  have h1 := h.filter (fun x => x.1 == "internal/strconv.uint64pow10")
  have e : laidY.filter (fun x => x.1 == "internal/strconv.uint64pow10") = [("internal/strconv.uint64pow10", tabData .u64 Lib.pow10Tab)] := by kernel_rfl
  rw [e] at h1
  exact tabIs_of_head (g := 3) (t := 308) (e := 263) (n := 20) (by kernel_rfl) (by kernel_rfl) (by kernel_rfl) (by kernel_rfl) (by kernel_rfl) (by kernel_rfl) h1
theorem tabY_of {W : World} (h : laidMet Tryz.prog laidR W) (hs : W.ShapedOpen Tryz.prog) : TabY W := by
  rw [laidY_eq] at h
  obtain ⟨h1, h2⟩ := errY_of h
  exact ⟨tabIY_of h, h2, h1, cell_of_shapedOpen_int (P := Tryz.prog) (g := 2) (t := 3) (zero := #[.int .i64 0]) hs (of_decide_eq_true (by kernel_rfl)) (by kernel_rfl) rfl (by kernel_rfl) (by kernel_rfl) Tryz.underlying3⟩
abbrev rangeS : ByteArray := { data := #[118, 97, 108, 117, 101, 32, 111, 117, 116, 32, 111, 102, 32, 114, 97, 110, 103, 101] }
abbrev syntaxS : ByteArray := { data := #[105, 110, 118, 97, 108, 105, 100, 32, 115, 121, 110, 116, 97, 120] }
noncomputable def lowE : Nat := (World.holding Tryz.prog default ⟨#[], #[], []⟩).heap.size
noncomputable def laidWorldY (os : Os) : World :=
  let w0 := World.holding Tryz.prog os ⟨#[.cells #[.string rangeS] 306, .cells #[.string syntaxS] 306], #[], []⟩
  let put (h : Array Obj) (g : Nat) (cs : Array Value) : Array Obj := h.modify g fun
    | .cells _ t frozen => .cells cs t frozen
    | o => o
  let h1 := put w0.heap 6 (cellsD Rows.laid_math_bits_deBruijn32tab).toArray
  let h2 := put h1 7 (cellsD Rows.laid_math_bits_deBruijn64tab).toArray
  let h3 := put h2 3 (cellsD Rows.laid_internal_strconv_uint64pow10).toArray
  let h4 := put h3 1 #[.iface 304 (.pointer (some ⟨lowE, 0, none⟩))]
  let h5 := put h4 0 #[.iface 304 (.pointer (some ⟨lowE + 1, 0, none⟩))]
  let h6 := put h5 4 (Lib.firstTab.map fun z => Value.int .u8 z).toArray
  let h7 := put h6 5 ((List.range 16).flatMap fun i => [Value.int .u8 (Lib.accLo i), Value.int .u8 (Lib.accHi i)]).toArray
  { w0 with heap := h7 }
theorem laid_metY (os : Os) (args : Array Value) : laidMet Tryz.prog laidR ((laidWorldY os).forCall (fun _ _ => 0) ⟨#[], args, []⟩).memory := by
  rw [laidY_eq]
  exact (LaidIn.of_run (l := laidY) [6, 7, 3, 5, 1, 0, 4, lowE, lowE + 1] 8 (by kernel_rfl) (by kernel_rfl) (by kernel_rfl) (by kernel_rfl)).met
section
variable {H : Type} {enc : TypeId × Value → H} {W : World}
theorem bytes_of_trod {fuel : Nat} {v : Value} {x : DataW H × List MemPlace} (h : DataW.trod enc Tryz.prog W 0 (fun _ => true) true fuel 23 [v] = some x) : ∃ A n c bs, v = .slice A n c ∧ Bytes W A n c bs ∧ n ≤ maxLen := by
  rcases open_slice1 (Tryz.underlying23) (by kernel_rfl) h with ⟨hcs, -⟩ | ⟨a, len, cap, m, k, V, D, Pl, hcs, -, hl, hmx, hm, -, hx⟩
  · simp only [List.cons.injEq, and_true] at hcs
    exact ⟨none, 0, 0, [], hcs, ⟨rfl, Nat.le_refl _, fun h => absurd h (by omega)⟩, Nat.zero_le _⟩
  · simp only [List.cons.injEq, and_true] at hcs
    rw [if_pos rfl] at hm
    subst hm
    have hV : ∀ i, i < m → ∃ z : Int, V i = .int .u8 z ∧ 0 ≤ z ∧ z < 256 := fun i hi => by
      obtain ⟨-, h0⟩ := hx i hi
      obtain ⟨z, hz, -, hw⟩ := DataW.trod_int (Tryz.underlying5) h0
      have : 0 ≤ z ∧ z < 256 := by
        simp [Lit.wf, IntKind.min, IntKind.max, IntKind.bits, IntKind.signed] at hw
        omega
      exact ⟨z, by simpa using hz, this.1, this.2⟩
    refine ⟨some a, len, m, (List.range len).map fun i => UInt8.ofNat (vI (V i)).toNat, hcs, ⟨by simp, hl, fun hn => ?_⟩, by omega⟩
    obtain ⟨h0, -⟩ := hx 0 (by omega)
    obtain ⟨b, off, sp⟩ := a
    have hsp : sp = none := by
      have := World.cell?_spot h0
      simpa [Addr.add] using this
    subst hsp
    refine ⟨b, off, rfl, ?_, fun i hi => ?_⟩
    · have := cell_blk h0
      rwa [addr_add] at this
    · obtain ⟨h0, -⟩ := hx i (by omega)
      obtain ⟨z, e0, z0, z1⟩ := hV i (by omega)
      rw [addr_add] at h0
      rw [h0, e0]
      have e : ((List.range len).map fun i => UInt8.ofNat (vI (V i)).toNat).getD i 0 = UInt8.ofNat z.toNat := by simp [List.getD, hi, e0, vI]
      show _ = some (Value.int .u8 ((((List.range len).map fun i => UInt8.ofNat (vI (V i)).toNat).getD i 0).toNat : Int))
      rw [e]
      have : (UInt8.ofNat z.toNat).toNat = z.toNat := by simp; omega
      rw [this, Int.toNat_of_nonneg z0]
end
end Go.Proofs.YtohadkmaemmfgaaGreatDoor
