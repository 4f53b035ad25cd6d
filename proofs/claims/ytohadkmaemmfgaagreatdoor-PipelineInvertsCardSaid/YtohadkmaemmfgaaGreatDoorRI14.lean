/- Ba Bb Bc. -/
import Derived.Test.YtohadkmaemmfgaaGreatDoorProg
import Derived.Test.YtohadkmaemmfgaaGreatDoorRI13
import Derived.Test.YtohadkmaemmfgaaGreatDoorRI09
import Derived.Deep.WholeRow
set_option maxRecDepth 100000
set_option maxHeartbeats 4000000
namespace Go.Proofs.YtohadkmaemmfgaaGreatDoor.Bwt
open Go.RowKit Go.Proofs
set_option linter.unusedVariables false
def byteR (bs : List UInt8) (p r : Nat) : Int := if r < p then gb bs r else gb bs (r - 1)
def rowsV (A : Option Addr) (n c p : Nat) : Value := .agg #[.slice A n c, .int .i64 (p : Int)]
theorem _root_.Go.Proofs.YtohadkmaemmfgaaGreatDoor.Bytes.alloc {w : World} {A : Option Addr} {n c : Nat} {bs : List UInt8} (h : Bytes w A n c bs) (o : Obj) : Bytes (w.alloc o) A n c bs := h.below ((Below.refl _ _).alloc (Nat.le_refl _) _)
theorem at_any (A : Option Addr) (n c p r : Nat) (bs : List UInt8) (w : World) (hx : Bytes w A n c bs) (hn : n ≤ 65536) (hp : p ≤ n) (hr : r ≤ n) (hne : r ≠ p) :
    Calls Tryz.prog 229 #[rowsV A n c p, .int .i64 (r : Int)] w fun e w' => e = .returned (.int .u8 (byteR bs p r)) ∧ Below w.heap.size w w' := by
  unfold rowsV
  have h0 : 0 < n := by omega
  have hy := fun o => hx.alloc o
  obtain ⟨b, off, rfl, hb, hcell⟩ := hx.get h0
  have hbel := (Below.refl w.heap.size w).alloc (Nat.le_refl _)
  by_cases hlt : r < p
  · have d1 : decide (p < r) = false := by simp; omega
    have d2 : decide ((p : Int) < (r : Int)) = false := by simp; omega
    have hrn : r < n := by omega
    have c1 := fun o => (hy o).cell hrn
    have hv : Hid (byteR bs p r = gb bs r) := by show _ = _; unfold byteR; rw [if_pos hlt]
    clear hy hcell hne
    go_enter Tryz.func229, Tryz.ntmps229
    go_wp2_with fail
    go_ret
    exact ⟨ret_int hv.out.symm, hbel _⟩
  · have d1 : decide (p < r) = true := by simp; omega
    have d2 : decide ((p : Int) < (r : Int)) = true := by simp; omega
    have hrn : r - 1 < n := by omega
    have hr1 : (1 : Int) ≤ r := by omega
    have c1 := fun o => (hy o).cell hrn
    have hv : Hid (byteR bs p r = gb bs (r - 1)) := by show _ = _; unfold byteR; rw [if_neg hlt]
    clear hy hcell
    go_enter Tryz.func229, Tryz.ntmps229
    go_wp2_with fail
    go_ret
    exact ⟨ret_int hv.out.symm, hbel _⟩
theorem byte_any (A : Option Addr) (n c p r : Nat) (bs : List UInt8) (w : World) (hx : Bytes w A n c bs) (hn : n ≤ 65536) (hp : p ≤ n) (hr : r ≤ n) (hne : r ≠ p) :
    Calls Tryz.prog 190 #[.slice A n c, .int .i64 (p : Int), .int .i64 (r : Int)] w fun e w' => e = .returned (.int .u8 (byteR bs p r)) ∧ w' = w := by
  have h0 : 0 < n := by omega
  obtain ⟨b, off, rfl, hb, hcell⟩ := hx.get h0
  by_cases hlt : r < p
  · have d1 : decide (r < p) = true := by simp; omega
    have d2 : decide ((r : Int) < (p : Int)) = true := by simp; omega
    have hrn : r < n := by omega
    have c1 := hx.cell hrn
    have hv : Hid (byteR bs p r = gb bs r) := by show _ = _; unfold byteR; rw [if_pos hlt]
    clear hcell hne
    go_enter Tryz.func190, Tryz.ntmps190
    go_wp2_with fail
    go_ret
    exact ⟨ret_int hv.out.symm, rfl⟩
  · have d1 : decide (r < p) = false := by simp; omega
    have d2 : decide ((r : Int) < (p : Int)) = false := by simp; omega
    have hrn : r - 1 < n := by omega
    have hr1 : (1 : Int) ≤ r := by omega
    have c1 := hx.cell hrn
    have hv : Hid (byteR bs p r = gb bs (r - 1)) := by show _ = _; unfold byteR; rw [if_neg hlt]
    clear hcell
    go_enter Tryz.func190, Tryz.ntmps190
    go_wp2_with fail
    go_ret
    exact ⟨ret_int hv.out.symm, rfl⟩
def limE (n : Nat) (p : Int) : Int := if 65536 < n then 5 else if p < 0 ∨ (n : Int) < p then 2 else 0
theorem limits_any (A : Option Addr) (n c : Nat) (p : Int) (w : World) (hn : n ≤ 1000000000) :
    Calls Tryz.prog 241 #[.slice A n c, .int .i64 p] w fun e w' => e = .returned (.int .i64 (limE n p)) ∧ w' = w := by
  unfold limE
  by_cases h1 : 65536 < n
  · have d1 : decide ((65536 : Int) < (n : Int)) = true := by simp; omega
    rw [if_pos h1]
    go_enter Tryz.func241, Tryz.ntmps241
    go_wp2_with fail
    go_ret
    exact ⟨rfl, rfl⟩
  · have d1 : decide ((65536 : Int) < (n : Int)) = false := by simp; omega
    rw [if_neg h1]
    by_cases h2 : p < 0
    · have d2 : decide (p < 0) = true := by simp; omega
      rw [if_pos (.inl h2)]
      go_enter Tryz.func241, Tryz.ntmps241
      go_wp2_with fail
      go_ret
      exact ⟨rfl, rfl⟩
    · have d2 : decide (p < 0) = false := by simp; omega
      by_cases h3 : (n : Int) < p
      · have d3 : decide ((n : Int) < p) = true := by simp; omega
        rw [if_pos (.inr h3)]
        go_enter Tryz.func241, Tryz.ntmps241
        go_wp2_with fail
        go_ret
        exact ⟨rfl, rfl⟩
      · have d3 : decide ((n : Int) < p) = false := by simp; omega
        rw [if_neg (by omega)]
        go_enter Tryz.func241, Tryz.ntmps241
        go_wp2_with fail
        go_ret
        exact ⟨rfl, rfl⟩
def cntTo (bs : List UInt8) (k d : Nat) : Int := (((bs.take k).map UInt8.toNat).count d : Nat)
def cntRow (bs : List UInt8) (k : Nat) : List Int := (List.range 256).map (cntTo bs k)
def stB (bs : List UInt8) : Nat → Int
  | 0 => 1
  | d + 1 => stB bs d + cntTo bs bs.length d
def stRow (bs : List UInt8) (k : Nat) : List Int := (List.range 256).map fun d => if d < k then stB bs d else cntTo bs bs.length d
def stAll (bs : List UInt8) : List Int := (List.range 256).map (stB bs)
theorem cntRow_length (bs : List UInt8) (k : Nat) : (cntRow bs k).length = 256 := by simp [cntRow]
theorem stRow_length (bs : List UInt8) (k : Nat) : (stRow bs k).length = 256 := by simp [stRow]
theorem cntRow_zero (bs : List UInt8) : cntRow bs 0 = List.replicate 256 0 := by
  apply List.ext_getElem
  · rw [cntRow_length, List.length_replicate]
  intro i h1 h2
  rw [List.getElem_replicate]
  simp only [cntRow, List.getElem_map, cntTo, List.take_zero, List.map_nil, List.count_nil]
  rfl
theorem stRow_zero (bs : List UInt8) : stRow bs 0 = cntRow bs bs.length := by apply List.ext_getElem <;> simp [stRow, cntRow]
theorem stRow_all (bs : List UInt8) : stRow bs 256 = stAll bs := by
  apply List.ext_getElem
  · simp [stRow, stAll]
  intro i h1 h2
  have : i < 256 := by simpa [stAll] using h2
  simp [stRow, stAll, this]
theorem gi_cntRow {bs : List UInt8} {k d : Nat} (hd : d < 256) : gi (cntRow bs k) d = cntTo bs k d := by simp [gi, cntRow, List.getD, hd]
def bn (bs : List UInt8) (k : Nat) : Nat := (bs.getD k 0).toNat
theorem bn_lt (bs : List UInt8) (k : Nat) : bn bs k < 256 := UInt8.toNat_lt _
theorem gb_bn (bs : List UInt8) (k : Nat) : gb bs k = (bn bs k : Int) := rfl
theorem cntTo_next {bs : List UInt8} {k : Nat} (hk : k < bs.length) (d : Nat) : cntTo bs (k + 1) d = cntTo bs k d + if bn bs k = d then 1 else 0 := by
  unfold cntTo bn
  have e : bs.take (k + 1) = bs.take k ++ [bs.getD k 0] := by rw [List.take_succ_eq_append_getElem hk]; simp [List.getD, hk]
  rw [e, List.map_append, List.count_append, List.map_singleton, List.count_singleton]
  by_cases h : (bs.getD k 0).toNat = d
  · subst h; rw [if_pos rfl, if_pos (by simp)]; omega
  · rw [if_neg h, if_neg (by simpa using h)]; omega
theorem cntTo_le (bs : List UInt8) (k d : Nat) : 0 ≤ cntTo bs k d ∧ cntTo bs k d ≤ k := by
  unfold cntTo
  have h1 := List.count_le_length (a := d) (l := (bs.take k).map UInt8.toNat)
  rw [List.length_map, List.length_take] at h1
  omega
theorem cntRow_next {bs : List UInt8} {k : Nat} (hk : k < bs.length) : (cntRow bs k).set (bn bs k) (cntTo bs k (bn bs k) + 1) = cntRow bs (k + 1) := by
  apply List.ext_getElem
  · simp [cntRow]
  intro i h1 h2
  rw [List.getElem_set]
  simp only [cntRow, List.getElem_map, List.getElem_range]
  rw [cntTo_next hk]
  by_cases e : bn bs k = i
  · subst e; simp
  · simp [e]
theorem stRow_next {bs : List UInt8} {k : Nat} (hk : k < 256) : (stRow bs k).set k (stB bs k) = stRow bs (k + 1) := by
  apply List.ext_getElem
  · simp [stRow]
  intro i h1 h2
  rw [List.getElem_set]
  simp only [stRow, List.getElem_map, List.getElem_range]
  by_cases e : k = i
  · subst e; simp
  · rw [if_neg e]
    by_cases h : i < k
    · rw [if_pos h, if_pos (by omega)]
    · rw [if_neg h, if_neg (by omega)]
theorem stB_le (bs : List UInt8) (hn : bs.length ≤ 65536) : ∀ d, 1 ≤ stB bs d ∧ stB bs d ≤ 1 + 65536 * d
  | 0 => by simp [stB]
  | d + 1 => by
    have h1 := stB_le bs hn d
    have h2 := cntTo_le bs bs.length d
    unfold stB
    omega
def arrV (l : List Int) : Value := .agg (l.map (Value.int .i64)).toArray
theorem uA : Tryz.prog.underlying 322 = some (.array 256 3) := Tryz.underlying322
def zeroC : Array Value := (List.replicate 256 (Value.int .i64 0)).toArray
theorem zA (W : World) : (zeroValue 322).run Tryz.prog W = .ok (.agg zeroC) W := (zero_of_info (n := 256) (by kernel_rfl)).1 W
theorem iA : (Tryz.prog.info? 322).map (·.size) = some 256 := by kernel_rfl
theorem run_index_arr {l : List Int} (hl : l.length = 256) {k : Nat} (hk : k < 256) (W : World) : (Instr.index 322 (arrV l) (.int .i64 (k : Int))).run Tryz.prog W = .ok (.int .i64 (gi l k)) W := by
  unfold arrV
  have h1 : (l.map (Value.int .i64)).toArray[k]? = some (.int .i64 (gi l k)) := by simp [gi, List.getD, hl, hk]
  have hs := sI W
  simp [Instr.index, go_sem, hk, part, isAgg, hs, gi, List.getD, hl]
theorem three (w : World) (o1 o2 o3 : Obj) : (((w.alloc o1).alloc o2).alloc o3).heap[w.heap.size]? = some o1 ∧ (((w.alloc o1).alloc o2).alloc o3).heap[w.heap.size + 1]? = some o2 ∧ (((w.alloc o1).alloc o2).alloc o3).heap[w.heap.size + 1 + 1]? = some o3 ∧ Below w.heap.size w (((w.alloc o1).alloc o2).alloc o3) := by
  have s1 : (w.alloc o1).heap.size = w.heap.size + 1 := by simp
  have s2 : ((w.alloc o1).alloc o2).heap.size = w.heap.size + 1 + 1 := by simp
  have t3 := heap_alloc_new ((w.alloc o1).alloc o2) o3
  have t2 := heap_alloc_new (w.alloc o1) o2
  have t1 := heap_alloc_new w o1
  rw [s2] at t3
  rw [s1] at t2
  refine ⟨?_, ?_, t3, ?_⟩
  · rw [Below.heap_alloc _ _ _ (by omega), Below.heap_alloc _ _ _ (by omega)]; exact t1
  · rw [Below.heap_alloc _ _ _ (by omega)]; exact t2
  · exact ((((Below.refl _ _).alloc (Nat.le_refl _) _).alloc (by omega) _).alloc (by omega) _)
theorem zeroRow {w : World} {g : Nat} {t : TypeId} (h : w.heap[g]? = some (.cells zeroC t)) : Row (Value.int .i64) w g t (List.replicate 256 0) := by
  unfold Row
  rw [h]
  unfold zeroC
  rw [List.map_replicate]
theorem starts_any (A : Option Addr) (n c p : Nat) (bs : List UInt8) (w : World) (hx : Bytes w A n c bs) (hn : n ≤ 65536) :
    Calls Tryz.prog 306 #[rowsV A n c p] w fun e w' => e = .returned (arrV (stAll bs)) ∧ Below w.heap.size w w' := by
  unfold rowsV
  have Hn := Lib.hid hx.1
  have z1 := zA
  go_enter Tryz.func306, Tryz.ntmps306
  go_wp2_with fail
  obtain ⟨-, h2, h3, hb0⟩ := three w (.cells #[.slice A n c, .int .i64 (p : Int)] 195) (.cells zeroC 322) (.cells zeroC 322)
  have r2 := zeroRow h2
  have r3 := zeroRow h3
  go_loopw [12] (fun i wr => ∃ k : Nat, k ≤ n ∧ i = .int .i64 (k : Int) ∧ Row (Value.int .i64) wr (w.heap.size + 1) 322 (List.replicate 256 0) ∧ Row (Value.int .i64) wr (w.heap.size + 1 + 1) 322 (cntRow bs k) ∧ Below w.heap.size w wr) (fun i _ => n - (intOf i).toNat)
  case atStart => exact ⟨0, by omega, rfl, r2, by rw [cntRow_zero]; exact r3, hb0⟩
  case round =>
    clear h2 h3 hb0 r2 r3
    obtain ⟨k, hk, rfl, r2, r3, hb⟩ := hrel
    by_cases hlt : k < n
    · obtain ⟨b, off, rfl, -, hcell⟩ := (hx.below hb).get hlt
      have c1 := hcell k hlt
      clear hcell
      rw [gb_bn] at c1
      have hm := bn_lt bs k
      have hnx : Hid (_ = _) := cntRow_next (bs := bs) (k := k) (by rw [Hn.out]; exact hlt)
      have c2 : wr.cell? ⟨w.heap.size + 1 + 1, bn bs k, none⟩ = some (.int .i64 (cntTo bs k (bn bs k))) := by
        have := r3.cell (j := bn bs k) 0 (by rw [cntRow_length]; exact hm)
        rw [this]; show some (Value.int .i64 (gi _ _)) = _; rw [gi_cntRow hm]
      have c3 := r3.frozen (bn bs k)
      obtain ⟨v0, v1⟩ := cntTo_le bs k (bn bs k)
      obtain ⟨m, hme⟩ : ∃ m, m = bn bs k := ⟨_, rfl⟩
      obtain ⟨v, hve⟩ : ∃ v, v = cntTo bs k (bn bs k) := ⟨_, rfl⟩
      have r4 := r3.set (bn bs k) (cntTo bs k (bn bs k) + 1)
      rw [hnx.out] at r4
      have r5 := r2.far (p := ⟨w.heap.size + 1 + 1, bn bs k, none⟩) (by show w.heap.size + 1 ≠ w.heap.size + 1 + 1; omega) (.int .i64 (cntTo bs k (bn bs k) + 1))
      have hb2 := hb.setCell (p := ⟨w.heap.size + 1 + 1, bn bs k, none⟩) (by show w.heap.size ≤ w.heap.size + 1 + 1; omega) (.int .i64 (cntTo bs k (bn bs k) + 1))
      rw [← hve] at r4 r5 hb2 c2 v0 v1
      rw [← hme] at r4 r5 hb2 c1 c2 c3 hm
      clear hme hve hnx
      go_wp2_with fail
      go_roundw
      case rel => exact ⟨k + 1, by omega, by go_num, r5, r4, hb2⟩
      case measure => simp [intOf]; omega
    · obtain rfl : k = n := by omega
      have hsz : (Tryz.prog.info? 322).map (·.size) = some ((cntRow bs k).map (Value.int .i64)).toArray.size := by rw [iA]; simp [cntRow_length]
      go_wp2_with (refine wpList_load_row rfl 322 (.tmp 3) rfl _ rfl _ _ _ _ r3 uA rfl hsz ?_)
      go_loopw [6, 23] (fun x i wr => ∃ k : Nat, k ≤ 256 ∧ i = .int .i64 (k : Int) ∧ x = .int .i64 (stB bs k) ∧ Row (Value.int .i64) wr (w.heap.size + 1) 322 (List.replicate 256 0) ∧ Row (Value.int .i64) wr (w.heap.size + 1 + 1) 322 (stRow bs k) ∧ Below w.heap.size w wr) (fun _ i _ => 256 - (intOf i).toNat)
      case atStart => exact ⟨0, by omega, rfl, rfl, r2, by rw [stRow_zero, Hn.out]; exact r3, hb⟩
      case round =>
        clear r2 r3 hb hk hlt
        obtain ⟨j, hj, rfl, rfl, r2, r3, hb⟩ := hrel
        by_cases hlt : j < 256
        · have i1 := run_index_arr (l := cntRow bs k) (cntRow_length _ _) hlt
          unfold arrV at i1
          rw [gi_cntRow hlt] at i1
          obtain ⟨v0, v1⟩ := cntTo_le bs k j
          obtain ⟨u0, u1⟩ := stB_le bs (by rw [Hn.out]; exact hn) j
          have hst : Hid (stB bs (j + 1) = stB bs j + cntTo bs k j) := by show _ = _; rw [stB, Hn.out]
          have r4 := r3.set j (stB bs j)
          rw [stRow_next hlt] at r4
          have r5 := r2.far (p := ⟨w.heap.size + 1 + 1, j, none⟩) (by show w.heap.size + 1 ≠ w.heap.size + 1 + 1; omega) (.int .i64 (stB bs j))
          have hb2 := hb.setCell (p := ⟨w.heap.size + 1 + 1, j, none⟩) (by show w.heap.size ≤ w.heap.size + 1 + 1; omega) (.int .i64 (stB bs j))
          have c2 := r3.cell (j := j) 0 (by rw [stRow_length]; exact hlt)
          have c3 := r3.frozen j
          have d1 : decide ((j : Int) < 256) = true := by simp; omega
          go_wp2_with fail
          go_roundw
          case rel => exact ⟨j + 1, by omega, by go_num, by rw [hst.out], r5, r4, hb2⟩
          case measure => simp [intOf]; omega
        · have d1 : decide ((j : Int) < 256) = false := by simp; omega
          have hj2 : Hid (j = 256) := by show _ = _; omega
          clear hj hlt
          have hsz2 : (Tryz.prog.info? 322).map (·.size) = some ((stRow bs j).map (Value.int .i64)).toArray.size := by rw [iA]; simp [stRow_length]
          have hold : ((List.replicate 256 (0 : Int)).map (Value.int .i64)).toArray.size = ((stRow bs j).map (Value.int .i64)).toArray.size := by rw [List.size_toArray, List.size_toArray, List.length_map, List.length_map, List.length_replicate, stRow_length]
          have hall : ((stRow bs j).map (Value.int .i64)).toArray.all (·.oneCell') = true := by
            rw [Array.all_eq_true_iff_forall_mem]
            intro v hv
            rw [List.mem_toArray] at hv
            obtain ⟨z, _, rfl⟩ := List.mem_map.1 hv
            rfl
          have r6 := setRow_heap wr (w.heap.size + 1) _ ((stRow bs j).map (Value.int .i64)).toArray _ _ r2
          have hb6 : Below w.heap.size w (wr.setRow (w.heap.size + 1) ((stRow bs j).map (Value.int .i64)).toArray) := ⟨hb.1, hb.2, hb.3, by rw [size_setRow]; exact hb.4, fun i hi => (setRow_other wr _ i _ (by omega)).trans (hb.5 i hi)⟩
          go_wp2_with (first | refine wpList_load_row rfl 322 (.tmp 3) rfl _ rfl _ _ _ _ r3 uA rfl hsz2 ?_ | refine wpList_store_row rfl 322 (.tmp 2) (.tmp 34) rfl _ _ rfl rfl _ _ r2 hsz2 hold hall ?_)
          refine bodyPost_ret (v := arrV (stRow bs j)) (results_cell_row rfl _ _ _ _ _ _ _ rfl r6 uA rfl hsz2) rfl ⟨?_, hb6⟩
          rw [hj2.out, stRow_all]
def newV (A : Option Addr) (n c : Nat) (p : Int) : Value := if limE n p = 0 then .agg #[.slice A n c, .int .i64 p] else .agg #[.slice none 0 0, .int .i64 0]
theorem newRows_any (A : Option Addr) (n c : Nat) (p : Int) (w : World) (hn : n ≤ 1000000000) :
    Calls Tryz.prog 163 #[.slice A n c, .int .i64 p] w fun e w' => e = .returned (.tuple #[newV A n c p, .int .i64 (limE n p)]) ∧ Below w.heap.size w w' := by
  unfold newV
  have hbel := fun o => (Below.refl w.heap.size w).alloc (Nat.le_refl _) o
  by_cases h1 : 65536 < n
  · have d1 : decide ((65536 : Int) < (n : Int)) = true := by simp; omega
    have hE : limE n p = 5 := by unfold limE; rw [if_pos h1]
    rw [hE, if_neg (by decide)]
    go_enter Tryz.func163, Tryz.ntmps163
    go_wp2_with fail
    refine bodyPost_ret (v := .tuple #[.agg #[.slice none 0 0, .int .i64 0], .int .i64 5]) (by simp [results, Tryz.results163, go_sem]) rfl ⟨rfl, hbel _⟩
  · have d1 : decide ((65536 : Int) < (n : Int)) = false := by simp; omega
    by_cases h2 : p < 0
    · have d2 : decide (p < 0) = true := by simp; omega
      have hE : limE n p = 2 := by unfold limE; rw [if_neg h1, if_pos (.inl h2)]
      rw [hE, if_neg (by decide)]
      go_enter Tryz.func163, Tryz.ntmps163
      go_wp2_with fail
      refine bodyPost_ret (v := .tuple #[.agg #[.slice none 0 0, .int .i64 0], .int .i64 2]) (by simp [results, Tryz.results163, go_sem]) rfl ⟨rfl, hbel _⟩
    · have d2 : decide (p < 0) = false := by simp; omega
      by_cases h3 : (n : Int) < p
      · have d3 : decide ((n : Int) < p) = true := by simp; omega
        have hE : limE n p = 2 := by unfold limE; rw [if_neg h1, if_pos (.inr h3)]
        rw [hE, if_neg (by decide)]
        go_enter Tryz.func163, Tryz.ntmps163
        go_wp2_with fail
        refine bodyPost_ret (v := .tuple #[.agg #[.slice none 0 0, .int .i64 0], .int .i64 2]) (by simp [results, Tryz.results163, go_sem]) rfl ⟨rfl, hbel _⟩
      · have d3 : decide ((n : Int) < p) = false := by simp; omega
        have hE : limE n p = 0 := by unfold limE; rw [if_neg h1, if_neg (by omega)]
        rw [hE, if_pos rfl]
        go_enter Tryz.func163, Tryz.ntmps163
        go_wp2_with fail
        refine bodyPost_ret (v := .tuple #[.agg #[.slice A n c, .int .i64 p], .int .i64 0]) (by simp [results, Tryz.results163, go_sem]) rfl ⟨rfl, hbel _⟩
end Go.Proofs.YtohadkmaemmfgaaGreatDoor.Bwt
