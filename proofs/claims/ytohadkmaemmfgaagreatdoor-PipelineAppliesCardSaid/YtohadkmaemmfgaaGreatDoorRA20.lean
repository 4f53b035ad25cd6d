/- Zs. -/
import Derived.Test.YtohadkmaemmfgaaGreatDoorRA09
import Derived.Test.YtohadkmaemmfgaaGreatDoorRA03
import Derived.Test.YtohadkmaemmfgaaGreatDoorRA12
import Derived.Laws.CopyRow
import Derived.Laws.CopyOwn
set_option maxRecDepth 100000
set_option maxHeartbeats 4000000
namespace Go.Proofs.YtohadkmaemmfgaaGreatDoor
open Go.RowKit Go.Proofs
set_option linter.unusedVariables false
set_option linter.unusedSimpArgs false
def z256 : Array Value := Array.replicate 256 (.int .u8 0)
def lstI (k : Nat) : List UInt8 := (List.range 256).map fun i => if i < k then UInt8.ofNat i else 0
theorem lstI_length (k : Nat) : (lstI k).length = 256 := by simp [lstI]
theorem lstI_at {k i : Nat} (h : i < 256) : bA (lstI k) i = if i < k then UInt8.ofNat i else 0 := by
  unfold lstI
  generalize hg : (fun i => if i < k then UInt8.ofNat i else (0 : UInt8)) = g
  have : (if i < k then UInt8.ofNat i else (0 : UInt8)) = g i := by rw [← hg]
  rw [this]
  simp [bA, List.getD, h]
theorem lstI_set {k : Nat} (h : k < 256) : (lstI k).set k (UInt8.ofNat k) = lstI (k + 1) := by
  refine list_ext_bA (by rw [List.length_set, lstI_length, lstI_length]) fun i hi => ?_
  rw [lstI_length] at hi
  rw [bA_set (by rw [lstI_length]; exact h), lstI_at hi, lstI_at hi]
  by_cases e : k = i
  · subst e; rw [if_pos rfl, if_pos (by omega)]
  · rw [if_neg e]
    by_cases h2 : i < k
    · rw [if_pos h2, if_pos (by omega)]
    · rw [if_neg h2, if_neg (by omega)]
theorem lstI_end : lstI 256 = lst0 := by
  unfold lstI lst0
  exact List.map_congr_left fun i hi => if_pos (List.mem_range.1 hi)
theorem z256_eq : z256 = ((lstI 0).map encB).toArray := by
  have h : lstI 0 = List.replicate 256 0 := by decide +kernel
  rw [h, List.map_replicate, List.toArray_replicate]
  rfl
abbrev RowR (w : World) (g : Nat) (l : List UInt8) : Prop := Row encB w g 200 l
theorem wrap8 {k : Nat} (h : k < 256) : IntKind.u8.wrap (k : Int) = (((UInt8.ofNat k).toNat : Nat) : Int) := by
  rw [UInt8.toNat_ofNat']
  simp [IntKind.wrap, IntKind.bits, IntKind.signed]
theorem fresh_any (w : World) : Calls Tryz.prog 91 #[] w fun e w' => (∃ g, e = .returned (.pointer (some ⟨g, 0, none⟩)) ∧ w.heap.size ≤ g ∧ RowR w' g lst0) ∧ Below w.heap.size w w' := by
  have hr0 : RowR (w.alloc (.cells z256 200)) w.heap.size (lstI 0) := by
    show (w.alloc (.cells z256 200)).heap[w.heap.size]? = _
    rw [← z256_eq]
    exact World.alloc_heap_new w _
  have HR0 := Lib.hid hr0
  have HB0 := Lib.hid (balloc (Below.refl w.heap.size w) (.cells z256 200))
  clear hr0
  go_enter Tryz.func91, Tryz.ntmps91
  go_wp2_with (refine wpList_built rfl _ _ rfl z256 (by kernel_rfl) ?_)
  go_loopw [2, 5] (fun _ i wr => ∃ k : Nat, k ≤ 256 ∧ i = .int .i64 (k : Int) ∧ Hid (RowR wr w.heap.size (lstI k)) ∧ Hid (Below w.heap.size w wr)) (fun _ i _ => 256 - (intOf i).toNat)
  case atStart => exact ⟨0, by omega, rfl, HR0, HB0⟩
  case round =>
    obtain ⟨k, hk, rfl, HR, HB⟩ := hrel
    by_cases hlt : k < 256
    · have d0 : decide ((k : Int) < 256) = true := decide_eq_true (by omega)
      have d0' : decide (k < 256) = true := decide_eq_true hlt
      have dk0 : decide ((0 : Int) ≤ (k : Int)) = true := decide_eq_true (by omega)
      have y0 := HR.out.cell 0 (j := k) (by rw [lstI_length]; exact hlt)
      have y1 := HR.out.frozen k
      have hw8 := wrap8 hlt
      have HN := Lib.hid (HR.out.set k (UInt8.ofNat k))
      have HB2 : Hid (∀ v, Below w.heap.size w (wr.setCell ⟨w.heap.size, k, none⟩ v)) := fun v => HB.out.setCell (p := ⟨w.heap.size, k, none⟩) (Nat.le_refl _) v
      go_wp2_with fail
      go_roundw
      case rel => exact ⟨k + 1, by omega, by go_num, Lib.hid (by rw [← lstI_set hlt]; exact HN.out), Lib.hid (HB2.out _)⟩
      case measure => (simp [intOf]) <;> omega
    · obtain rfl : k = 256 := by omega
      have d0 : decide (((256 : Nat) : Int) < 256) = false := rfl
      go_wp2_with fail
      go_ret
      exact ⟨⟨_, rfl, Nat.le_refl _, by rw [← lstI_end]; exact HR.out⟩, HB.out⟩
theorem idx_hit {l : List UInt8} {b : UInt8} {k : Nat} (hk : k < l.length) (he : bA l k = b) (hb : ∀ j, j < k → bA l j ≠ b) : plc l b = k := by
  have hg : ∀ j (hj : j < l.length), bA l j = l[j] := fun j hj => by unfold bA; rw [List.getD_eq_getElem?_getD, List.getElem?_eq_getElem hj]; rfl
  unfold plc
  rcases Nat.lt_trichotomy (l.idxOf b) k with h | h | h
  · have hl : l.idxOf b < l.length := by omega
    have := hb _ h
    rw [hg _ hl] at this
    exact absurd (List.getElem_idxOf hl) this
  · exact h
  · exact absurd ((hg k hk).symm.trans he) (by simpa using List.not_of_lt_findIdx h)
theorem indexB_any (g : Nat) (l : List UInt8) (b : UInt8) (w : World) (hr : RowR w g l) (hf : Full l) :
    Calls Tryz.prog 165 #[.slice (some ⟨g, 0, none⟩) 256 256, .int .u8 (b.toNat : Int)] w fun e w' => e = .returned (.int .i64 ((plc l b : Nat) : Int)) ∧ w' = w := by
  have hl := hf.1
  have hpl := plc_lt hf b
  have hpa := plc_at hf b
  have HR := Lib.hid hr
  have HPA := Lib.hid hpa
  clear hr hpa
  go_enter Tryz.func165, Tryz.ntmps165
  go_wp2_with fail
  go_loop [5, 8] (fun _ i => ∃ k : Nat, k ≤ 256 ∧ i = .int .i64 (k : Int) ∧ Hid (∀ j, j < k → bA l j ≠ b)) (fun _ i => 256 - (intOf i).toNat)
  case atStart => exact ⟨0, by omega, rfl, Lib.hid fun j hj => absurd hj (Nat.not_lt_zero _)⟩
  case round =>
    obtain ⟨k, hk, rfl, HA⟩ := hrel
    by_cases hlt : k < 256
    · have d0 : decide ((k : Int) < 256) = true := decide_eq_true (by omega)
      have d0' : decide (k < 256) = true := decide_eq_true hlt
      have y0 : w.cell? ⟨g, k, none⟩ = some (.int .u8 ((bA l k).toNat : Int)) := HR.out.cell 0 (j := k) (by rw [hl]; exact hlt)
      by_cases he : bA l k = b
      · have HE := Lib.hid (idx_hit (by rw [hl]; exact hlt) he HA.out)
        rw [he] at y0
        have q0 : ((b.toNat : Int) == (b.toNat : Int)) = true := beq_self_eq_true _
        clear he
        go_wp2_with fail
        go_ret
        refine ⟨?_, rfl⟩
        rw [HE.out]; rfl
      · have q0 : ((b.toNat : Int) == ((bA l k).toNat : Int)) = false := by
          rw [beq_eq_false_iff_ne]
          exact fun e => he (UInt8.toNat_inj.1 (by omega))
        have HE := Lib.hid he
        obtain ⟨z, hz⟩ : ∃ z, z = bA l k := ⟨_, rfl⟩
        rw [← hz] at y0 q0
        clear he hz
        go_wp2_with fail
        go_round
        case rel =>
          refine ⟨k + 1, by omega, by go_num, Lib.hid fun j hj => ?_⟩
          by_cases e : j = k
          · subst e; exact HE.out
          · exact HA.out j (by omega)
        case measure => (simp [intOf]) <;> omega
    · exact absurd HPA.out (HA.out _ (by omega))
theorem place_any (g : Nat) (l : List UInt8) (b : UInt8) (w : World) (hr : RowR w g l) (hf : Full l) :
    Calls Tryz.prog 93 #[.pointer (some ⟨g, 0, none⟩), .int .u8 (b.toNat : Int)] w fun e w' => e = .returned (.int .i64 ((plc l b : Nat) : Int)) ∧ w' = w := by
  have HC := Lib.hid (indexB_any g l b w hr hf)
  obtain ⟨pz, hp⟩ : ∃ p : Int, p = ((plc l b : Nat) : Int) := ⟨_, rfl⟩
  rw [← hp] at HC ⊢
  clear hp hr hf
  go_enter Tryz.func93, Tryz.ntmps93
  go_wp2_with fail
  refine HC.out.mono ?_
  rintro e w1 ⟨rfl, hw1⟩
  obtain rfl : w = w1 := hw1.symm
  go_wp2_with fail
  go_ret
  exact ⟨rfl, rfl⟩
theorem step_copy_run {P : Program} {ops : Array Oper} {o : Oper} {a : Act} {w w' : World} {K : Act → World → Prop} {Q : Exit → Act → World → Prop} {E : Prop} (hgd : o.guard = none) (d s : Operand) (dT sT : TypeId)
    (ho : o.op = .call { callee := .builtin .copy, args := #[d, s], argTypes := #[dT, sT] }) (dp sp : Option Addr) (dLen dCap sLen sCap : Nat) (hd : a.eval d = .slice dp dLen dCap) (hs : a.eval s = .slice sp sLen sCap) {v : Value}
    (hrun : (Builtin.copy_ #[dT, sT] o.type #[.slice dp dLen dCap, .slice sp sLen sCap]).run P w = .ok v w') (h : K (a.put o.dst v) w') :
    if Region.wanted o (yielded ops a.tmps) = true then Oper.wp P o a w K Q else E := by
  have hw : Region.wanted o (yielded ops a.tmps) = true := by simp [Region.wanted, hgd]
  rw [if_pos hw]
  unfold Oper.wp
  simp [execOp, ho, resolve, invoke, builtin, hd, hs, hrun, Result.andThen]
  exact h
def upL (l : List UInt8) (k : Nat) : List UInt8 := l.take 1 ++ (l.take k ++ l.drop (1 + k))
theorem upL_set (l : List UInt8) (k : Nat) (h : 1 ≤ l.length) : (upL l k).set 0 (bA l k) = mov l k := by
  unfold upL mov
  obtain ⟨a, r, rfl⟩ : ∃ a r, l = a :: r := by cases l with | nil => simp at h | cons a r => exact ⟨a, r, rfl⟩
  rw [show (a :: r).take 1 = [a] from rfl, List.singleton_append, List.set_cons_zero, Nat.add_comm 1 k]
theorem setRow_blk (w : World) (g : Nat) (cs : Array Value) {p : Nat} (h : p ≠ g) : (w.setRow g cs).heap[p]? = w.heap[p]? := setRow_other w g p cs h
theorem copyR (W : World) (g k : Nat) (l : List UInt8) (ty : TypeId) (hr : RowR W g l) (hl : l.length = 256) (hk : k < 256) :
    (Builtin.copy_ #[23, 23] ty #[.slice (some ⟨g, 1, none⟩) k 255, .slice (some ⟨g, 0, none⟩) k 256]).run Tryz.prog W = .ok (goInt k) (W.setRow g ((upL l k).map encB).toArray) := by
  have h := run_copy_row (P := Tryz.prog) W 23 23 ty 5 g 1 k 255 ⟨g, 0, none⟩ k 256 (l.map encB).toArray 200 ((l.take k).map encB) uB (by kernel_rfl) hr (by simp; omega) (fun j v hj => by
    rw [List.getElem?_map, Option.map_eq_some_iff] at hj
    obtain ⟨y, hy, rfl⟩ := hj
    rw [List.getElem?_take] at hy
    split at hy
    · rename_i hjk
      have := hr.cell 0 (j := j) (by omega)
      rw [addr_add, Nat.zero_add, this, List.getD_eq_getElem?_getD, hy]; rfl
    · cases hy) (by simp; omega) (fun v hv => by obtain ⟨y, -, rfl⟩ := List.mem_map.1 hv; rfl)
  rw [h]
  have hlen : ((l.take k).map encB).length = k := by simp; omega
  rw [hlen]
  unfold upL
  simp
theorem uRL : Tryz.prog.underlying 200 = some (.array (Tryz.prog.arrayLen 200) (Tryz.prog.elem 200)) := by kernel_rfl
theorem alRL : Tryz.prog.arrayLen 200 = 256 := by kernel_rfl
theorem elRL : Tryz.prog.elem 200 = 5 := by kernel_rfl
theorem slR1 (g k : Nat) (hk : k < 256) (W : World) : (Instr.sliceAt 200 (.pointer (some ⟨g, 0, none⟩)) (some (.int .i64 1)) (some (.int .i64 (IntKind.i64.wrap ((k : Int) + 1)))) none).run Tryz.prog W = .ok (.slice (some ⟨g, 1, none⟩) k 255) W := by
  rw [IntKind.wrap_i64, show ((k : Int) + 1 + 9223372036854775808) % 18446744073709551616 - 9223372036854775808 = (k : Int) + 1 by omega]
  rw [run_sliceAt_array_lh W _ _ uRL .i64 .i64 1 ((k : Int) + 1) (by decide) (by omega) (by rw [alRL]; omega), alRL, elRL, sB W]
  simp [Result.andThen, slicedAt, Addr.add]
theorem slR2 (g k : Nat) (hk : k < 256) (W : World) : (Instr.sliceAt 200 (.pointer (some ⟨g, 0, none⟩)) none (some (.int .i64 (k : Int))) none).run Tryz.prog W = .ok (.slice (some ⟨g, 0, none⟩) k 256) W := by
  rw [run_sliceAt_array_h W _ _ uRL .i64 (k : Int) (by omega) (by rw [alRL]; omega), alRL, elRL, sB W]
  simp [Result.andThen, slicedAt, Addr.add]
theorem front_any (g : Nat) (l : List UInt8) (k : Nat) (w : World) (hr : RowR w g l) (hl : l.length = 256) (hk : k < 256) :
    Calls Tryz.prog 94 #[.pointer (some ⟨g, 0, none⟩), .int .i64 (k : Int)] w fun e w' => e = .returned (.int .u8 ((bA l k).toNat : Int)) ∧ RowR w' g (mov l k) ∧ w.grownBy w' (some g) ∧ w'.heap.size = w.heap.size := by
  have HR := Lib.hid hr
  have y0 : w.cell? ⟨g, k, none⟩ = some (.int .u8 ((bA l k).toNat : Int)) := hr.cell 0 (j := k) (by rw [hl]; exact hk)
  have d1 : decide ((k : Int) < 256) = true := decide_eq_true (by omega)
  have d1' : decide (k < 256) = true := decide_eq_true hk
  have hcp := fun W hW => copyR W g k l 3 hW hl hk
  have HCP := Lib.hid hcp
  have sr1 := slR1 g k hk
  have sr2 := slR2 g k hk
  clear hr hcp
  go_enter Tryz.func94, Tryz.ntmps94
  go_wp2_with fail
  go_region_law (refine step_copy_run rfl (.tmp 15) (.tmp 19) 23 23 rfl (some ⟨g, 1, none⟩) (some ⟨g, 0, none⟩) k 255 k 256 (by simp [Act.eval, Act.put]) (by simp [Act.eval, Act.put]) (HCP.out _ HR.out) ?_)
  obtain ⟨wx, hwx⟩ : ∃ wx, wx = w.drew.setRow g ((upL l k).map encB).toArray := ⟨_, rfl⟩
  have hul : (upL l k).length = 256 := by unfold upL; simp; omega
  have hrx : RowR wx g (upL l k) := by
    rw [hwx]
    exact setRow_heap w.drew g _ _ _ _ HR.out
  have hgx : w.grownBy wx (some g) := by
    rw [hwx]
    exact ⟨rfl, rfl, rfl, by rw [size_setRow]; exact Nat.le_refl _, fun p hp hne => setRow_blk w.drew g _ (fun e => hne (by rw [e]))⟩
  have hsx : wx.heap.size = w.heap.size := by rw [hwx, size_setRow]; rfl
  have z0 := hrx.cell 0 (j := 0) (by omega)
  have z1 := hrx.frozen 0
  have HF : Hid (RowR (wx.setCell ⟨g, 0, none⟩ (.int .u8 ((bA l k).toNat : Int))) g (mov l k) ∧ w.grownBy (wx.setCell ⟨g, 0, none⟩ (.int .u8 ((bA l k).toNat : Int))) (some g) ∧ (wx.setCell ⟨g, 0, none⟩ (.int .u8 ((bA l k).toNat : Int))).heap.size = w.heap.size) := by
    refine ⟨?_, grownBy.trans' hgx ⟨rfl, rfl, rfl, by simp [World.setCell], fun p hp hne => Below.heap_setCell wx ⟨g, 0, none⟩ _ p (fun e => hne (by rw [e]))⟩, by simpa [World.setCell] using hsx⟩
    rw [← upL_set l k (by omega)]
    exact hrx.set 0 (bA l k)
  rw [← hwx]
  clear hwx hul hrx hgx hsx
  go_wp2_with fail
  go_ret
  exact ⟨rfl, HF.out.1, HF.out.2.1, HF.out.2.2⟩
theorem shortR_any (A : Option Addr) (n c : Nat) (w : World) : Calls Tryz.prog 92 #[.slice A n c] w fun e w' => e = .returned (.int .i64 (if 65536 < n then 5 else 0)) ∧ w' = w := by
  by_cases h : 65536 < n
  · have d0 : decide ((65536 : Int) < (n : Int)) = true := decide_eq_true (by omega)
    have d0' : decide (65536 < n) = true := decide_eq_true h
    simp only [if_pos h]
    clear h
    go_enter Tryz.func92, Tryz.ntmps92
    go_wp2_with fail
    go_ret
    exact ⟨rfl, rfl⟩
  · have d0 : decide ((65536 : Int) < (n : Int)) = false := decide_eq_false (by omega)
    have d0' : decide (65536 < n) = false := decide_eq_false h
    simp only [if_neg h]
    clear h
    go_enter Tryz.func92, Tryz.ntmps92
    go_wp2_with fail
    go_ret
    exact ⟨rfl, rfl⟩
end Go.Proofs.YtohadkmaemmfgaaGreatDoor
