/- The table of operations of layer 15, and the contract of instruction.operations. (Printed by wip/mkops.py.) -/
import Derived.Test.YtlbhggjkcfcobaaDoorKa
namespace Go.Proofs.YtlbhggjkcfcobaaDoor
open Go.RowKit Go.Proofs
set_option linter.unusedVariables false

def opTab : List Opn := [
  ⟨[112, 117, 115, 104], [], [110], 4294967296, true⟩,
  ⟨[108, 111, 97, 100], [], [110], 16, true⟩,
  ⟨[115, 116, 111, 114, 101], [110], [], 16, true⟩,
  ⟨[103, 101, 116], [110], [110], 8, true⟩,
  ⟨[112, 117, 116], [110, 110], [], 8, true⟩,
  ⟨[100, 117, 112], [97], [97, 97], 1, false⟩,
  ⟨[100, 114, 111, 112], [97], [], 1, false⟩,
  ⟨[115, 119, 97, 112], [97, 98], [98, 97], 1, false⟩,
  ⟨[97, 100, 100], [110, 110], [110], 1, false⟩,
  ⟨[115, 117, 98], [110, 110], [110], 1, false⟩,
  ⟨[109, 117, 108], [110, 110], [110], 1, false⟩,
  ⟨[100, 105, 118], [110, 110], [110], 1, false⟩,
  ⟨[109, 111, 100], [110, 110], [110], 1, false⟩,
  ⟨[97, 110, 100], [110, 110], [110], 1, false⟩,
  ⟨[111, 114], [110, 110], [110], 1, false⟩,
  ⟨[120, 111, 114], [110, 110], [110], 1, false⟩,
  ⟨[115, 104, 108], [110, 110], [110], 1, false⟩,
  ⟨[115, 104, 114], [110, 110], [110], 1, false⟩,
  ⟨[109, 105, 110], [110, 110], [110], 1, false⟩,
  ⟨[109, 97, 120], [110, 110], [110], 1, false⟩,
  ⟨[104, 97, 115, 104], [110, 110], [110], 1, false⟩,
  ⟨[101, 113], [110, 110], [116], 1, false⟩,
  ⟨[108, 101, 115, 115], [110, 110], [116], 1, false⟩,
  ⟨[110, 111, 116], [116], [116], 1, false⟩,
  ⟨[98, 111, 116, 104], [116, 116], [116], 1, false⟩,
  ⟨[101, 105, 116, 104, 101, 114], [116, 116], [116], 1, false⟩,
  ⟨[105, 110, 116], [116], [110], 1, false⟩,
  ⟨[105, 102], [116], [], 1, false⟩,
  ⟨[101, 108, 115, 101], [], [], 1, false⟩,
  ⟨[108, 111, 111, 112], [110], [], 1, false⟩,
  ⟨[108, 101, 97, 118, 101], [116], [], 1, false⟩,
  ⟨[101, 110, 100], [], [], 1, false⟩,
  ⟨[105, 110, 112, 117, 116], [], [110], 1, false⟩,
  ⟨[101, 110, 100, 101, 100], [], [116], 1, false⟩,
  ⟨[101, 109, 105, 116], [110], [], 1, false⟩,
  ⟨[99, 111, 110, 116, 101, 120, 116], [110], [], 16, true⟩]
def opsC : Array Value := (opTab.flatMap opnV).toArray
def opO (k : Nat) : Opn := opTab.getD k ⟨[], [], [], 0, false⟩
theorem uOp : Tryd.prog.underlying 116 = some (.array 36 82) := Tryd.underlying116
def zeroO : Array Value := (List.replicate 36 [Value.string (strB []), .string (strB []), .string (strB []), .int .u64 0, .bool false]).flatten.toArray
theorem zO (W : World) : (zeroValue 116).run Tryd.prog W = .ok (.agg zeroO) W := (Go.zero_of_info (n := 180) (by kernel_rfl)).1 W
theorem iO : (Tryd.prog.info? 116).map (·.size) = some opsC.size := by kernel_rfl
theorem zO_size : zeroO.size = opsC.size := by decide +kernel
theorem allO : opsC.all (·.oneCell') = true := by decide +kernel

section
variable {P : Program} {o : Oper} {a : Act} {Q : Exit → Act → World → Prop} {w : World}
theorem wpList_buildc {ops : Array Oper} {rest : List Oper} (hg : o.guard = none) (t : TypeId) (parts : Array (Nat × Operand)) (ho : o.op = .build t parts) (cells : Array Value)
    (hf : P.built t (parts.map fun (i, x) => (i, a.eval x)).toList = some cells) (h : wpList P ops Q rest (a.put o.dst (.agg cells)) w) : wpList P ops Q (o :: rest) a w := by
  refine wpList_build hg t parts ho (by rw [hf]; rfl) ?_
  rw [hf]
  exact h
end

theorem calc_any (s : List UInt8) (w : World) : Calls Tryd.prog 83 #[.string (strB s)] w fun e w' => e = .returned (.agg #[.string (strB s), .string ⟨#[110, 110]⟩, .string ⟨#[110]⟩, .int .u64 1, .bool false]) ∧ Below w.heap.size w w' := by
  go_enter Tryd.func83, Tryd.ntmps83
  go_wp2_with fail
  refine bodyPost_ret (v := .agg #[.string (strB s), .string ⟨#[110, 110]⟩, .string ⟨#[110]⟩, .int .u64 1, .bool false]) (by simp [results, Tryd.results83, go_sem]) rfl ⟨rfl, ?_⟩
  first | exact balloc (Below.refl _ _) _ | (repeat' (first | exact balloc (Below.refl _ _) _ | refine Below.setCell ?_ (Nat.le_refl _) _))
theorem plainO_any (s p q : List UInt8) (w : World) : Calls Tryd.prog 84 #[.string (strB s), .string (strB p), .string (strB q)] w fun e w' => e = .returned (.agg #[.string (strB s), .string (strB p), .string (strB q), .int .u64 1, .bool false]) ∧ Below w.heap.size w w' := by
  go_enter Tryd.func84, Tryd.ntmps84
  go_wp2_with fail
  refine bodyPost_ret (v := .agg #[.string (strB s), .string (strB p), .string (strB q), .int .u64 1, .bool false]) (by simp [results, Tryd.results84, go_sem]) rfl ⟨rfl, ?_⟩
  first | exact balloc (Below.refl _ _) _ | (repeat' (first | exact balloc (Below.refl _ _) _ | refine Below.setCell ?_ (Nat.le_refl _) _))

def rowV (w : World) (g : Nat) (t : TypeId) (cs : Array Value) : Prop := w.heap[g]? = some (.cells cs t (0, 0))
theorem rowV.lt {w : World} {g : Nat} {t : TypeId} {cs : Array Value} (h : rowV w g t cs) : g < w.heap.size := by
  rcases Nat.lt_or_ge g w.heap.size with hlt | hge
  · exact hlt
  · unfold rowV at h; rw [Array.getElem?_eq_none hge] at h; cases h
theorem rowV.below {w w' : World} {g B : Nat} {t : TypeId} {cs : Array Value} (h : rowV w g t cs) (hb : Below B w w') (hg : g < B) : rowV w' g t cs := (hb.block g hg).trans h
theorem rowV.new (w : World) (t : TypeId) (cs : Array Value) : rowV (w.alloc (.cells cs t)) w.heap.size t cs := heap_alloc_new w _

set_option maxRecDepth 100000 in
set_option maxHeartbeats 4000000 in
theorem operations_any (w : World) : Calls Tryd.prog 53 #[] w fun e w' => e = .returned (.agg opsC) ∧ Below w.heap.size w w' := by
  have z1 := zO
  have hb : Below w.heap.size w (w.alloc (.cells zeroO 116)) := balloc (Below.refl _ _) _
  have hr := rowV.new w 116 zeroO
  go_enter Tryd.func53, Tryd.ntmps53
  go_wp2_with fail
  clear z1
  refine (plainO_any [100, 117, 112] [97] [97, 97] _).mono ?_
  rintro e w1 ⟨rfl, hb1⟩
  have hb := hb.trans (hb1.mono hb.size)
  have hr := hr.below hb1 (hr.lt)
  clear hb1
  go_wp2_with fail
  refine (plainO_any [100, 114, 111, 112] [97] [] _).mono ?_
  rintro e w1 ⟨rfl, hb1⟩
  have hb := hb.trans (hb1.mono hb.size)
  have hr := hr.below hb1 (hr.lt)
  clear hb1
  go_wp2_with fail
  refine (plainO_any [115, 119, 97, 112] [97, 98] [98, 97] _).mono ?_
  rintro e w1 ⟨rfl, hb1⟩
  have hb := hb.trans (hb1.mono hb.size)
  have hr := hr.below hb1 (hr.lt)
  clear hb1
  go_wp2_with fail
  refine (calc_any [97, 100, 100] _).mono ?_
  rintro e w1 ⟨rfl, hb1⟩
  have hb := hb.trans (hb1.mono hb.size)
  have hr := hr.below hb1 (hr.lt)
  clear hb1
  go_wp2_with fail
  refine (calc_any [115, 117, 98] _).mono ?_
  rintro e w1 ⟨rfl, hb1⟩
  have hb := hb.trans (hb1.mono hb.size)
  have hr := hr.below hb1 (hr.lt)
  clear hb1
  go_wp2_with fail
  refine (calc_any [109, 117, 108] _).mono ?_
  rintro e w1 ⟨rfl, hb1⟩
  have hb := hb.trans (hb1.mono hb.size)
  have hr := hr.below hb1 (hr.lt)
  clear hb1
  go_wp2_with fail
  refine (calc_any [100, 105, 118] _).mono ?_
  rintro e w1 ⟨rfl, hb1⟩
  have hb := hb.trans (hb1.mono hb.size)
  have hr := hr.below hb1 (hr.lt)
  clear hb1
  go_wp2_with fail
  refine (calc_any [109, 111, 100] _).mono ?_
  rintro e w1 ⟨rfl, hb1⟩
  have hb := hb.trans (hb1.mono hb.size)
  have hr := hr.below hb1 (hr.lt)
  clear hb1
  go_wp2_with fail
  refine (calc_any [97, 110, 100] _).mono ?_
  rintro e w1 ⟨rfl, hb1⟩
  have hb := hb.trans (hb1.mono hb.size)
  have hr := hr.below hb1 (hr.lt)
  clear hb1
  go_wp2_with fail
  refine (calc_any [111, 114] _).mono ?_
  rintro e w1 ⟨rfl, hb1⟩
  have hb := hb.trans (hb1.mono hb.size)
  have hr := hr.below hb1 (hr.lt)
  clear hb1
  go_wp2_with fail
  refine (calc_any [120, 111, 114] _).mono ?_
  rintro e w1 ⟨rfl, hb1⟩
  have hb := hb.trans (hb1.mono hb.size)
  have hr := hr.below hb1 (hr.lt)
  clear hb1
  go_wp2_with fail
  refine (calc_any [115, 104, 108] _).mono ?_
  rintro e w1 ⟨rfl, hb1⟩
  have hb := hb.trans (hb1.mono hb.size)
  have hr := hr.below hb1 (hr.lt)
  clear hb1
  go_wp2_with fail
  refine (calc_any [115, 104, 114] _).mono ?_
  rintro e w1 ⟨rfl, hb1⟩
  have hb := hb.trans (hb1.mono hb.size)
  have hr := hr.below hb1 (hr.lt)
  clear hb1
  go_wp2_with fail
  refine (calc_any [109, 105, 110] _).mono ?_
  rintro e w1 ⟨rfl, hb1⟩
  have hb := hb.trans (hb1.mono hb.size)
  have hr := hr.below hb1 (hr.lt)
  clear hb1
  go_wp2_with fail
  refine (calc_any [109, 97, 120] _).mono ?_
  rintro e w1 ⟨rfl, hb1⟩
  have hb := hb.trans (hb1.mono hb.size)
  have hr := hr.below hb1 (hr.lt)
  clear hb1
  go_wp2_with fail
  refine (calc_any [104, 97, 115, 104] _).mono ?_
  rintro e w1 ⟨rfl, hb1⟩
  have hb := hb.trans (hb1.mono hb.size)
  have hr := hr.below hb1 (hr.lt)
  clear hb1
  go_wp2_with fail
  refine (plainO_any [101, 113] [110, 110] [116] _).mono ?_
  rintro e w1 ⟨rfl, hb1⟩
  have hb := hb.trans (hb1.mono hb.size)
  have hr := hr.below hb1 (hr.lt)
  clear hb1
  go_wp2_with fail
  refine (plainO_any [108, 101, 115, 115] [110, 110] [116] _).mono ?_
  rintro e w1 ⟨rfl, hb1⟩
  have hb := hb.trans (hb1.mono hb.size)
  have hr := hr.below hb1 (hr.lt)
  clear hb1
  go_wp2_with fail
  refine (plainO_any [110, 111, 116] [116] [116] _).mono ?_
  rintro e w1 ⟨rfl, hb1⟩
  have hb := hb.trans (hb1.mono hb.size)
  have hr := hr.below hb1 (hr.lt)
  clear hb1
  go_wp2_with fail
  refine (plainO_any [98, 111, 116, 104] [116, 116] [116] _).mono ?_
  rintro e w1 ⟨rfl, hb1⟩
  have hb := hb.trans (hb1.mono hb.size)
  have hr := hr.below hb1 (hr.lt)
  clear hb1
  go_wp2_with fail
  refine (plainO_any [101, 105, 116, 104, 101, 114] [116, 116] [116] _).mono ?_
  rintro e w1 ⟨rfl, hb1⟩
  have hb := hb.trans (hb1.mono hb.size)
  have hr := hr.below hb1 (hr.lt)
  clear hb1
  go_wp2_with fail
  refine (plainO_any [105, 110, 116] [116] [110] _).mono ?_
  rintro e w1 ⟨rfl, hb1⟩
  have hb := hb.trans (hb1.mono hb.size)
  have hr := hr.below hb1 (hr.lt)
  clear hb1
  go_wp2_with fail
  refine (plainO_any [105, 102] [116] [] _).mono ?_
  rintro e w1 ⟨rfl, hb1⟩
  have hb := hb.trans (hb1.mono hb.size)
  have hr := hr.below hb1 (hr.lt)
  clear hb1
  go_wp2_with fail
  refine (plainO_any [101, 108, 115, 101] [] [] _).mono ?_
  rintro e w1 ⟨rfl, hb1⟩
  have hb := hb.trans (hb1.mono hb.size)
  have hr := hr.below hb1 (hr.lt)
  clear hb1
  go_wp2_with fail
  refine (plainO_any [108, 111, 111, 112] [110] [] _).mono ?_
  rintro e w1 ⟨rfl, hb1⟩
  have hb := hb.trans (hb1.mono hb.size)
  have hr := hr.below hb1 (hr.lt)
  clear hb1
  go_wp2_with fail
  refine (plainO_any [108, 101, 97, 118, 101] [116] [] _).mono ?_
  rintro e w1 ⟨rfl, hb1⟩
  have hb := hb.trans (hb1.mono hb.size)
  have hr := hr.below hb1 (hr.lt)
  clear hb1
  go_wp2_with fail
  refine (plainO_any [101, 110, 100] [] [] _).mono ?_
  rintro e w1 ⟨rfl, hb1⟩
  have hb := hb.trans (hb1.mono hb.size)
  have hr := hr.below hb1 (hr.lt)
  clear hb1
  go_wp2_with fail
  refine (plainO_any [105, 110, 112, 117, 116] [] [110] _).mono ?_
  rintro e w1 ⟨rfl, hb1⟩
  have hb := hb.trans (hb1.mono hb.size)
  have hr := hr.below hb1 (hr.lt)
  clear hb1
  go_wp2_with fail
  refine (plainO_any [101, 110, 100, 101, 100] [] [116] _).mono ?_
  rintro e w1 ⟨rfl, hb1⟩
  have hb := hb.trans (hb1.mono hb.size)
  have hr := hr.below hb1 (hr.lt)
  clear hb1
  go_wp2_with fail
  refine (plainO_any [101, 109, 105, 116] [110] [] _).mono ?_
  rintro e w1 ⟨rfl, hb1⟩
  have hb := hb.trans (hb1.mono hb.size)
  have hr := hr.below hb1 (hr.lt)
  clear hb1
  have Hr := Lib.hid hr; clear hr
  go_wp2_with (first | refine wpList_buildc rfl 116 _ rfl opsC (by kernel_rfl) ?_ | refine wpList_store_row rfl 116 (.tmp 0) (.tmp 69) rfl _ _ rfl rfl _ _ Hr.out iO zO_size allO ?_)
  have r6 := setRow_heap w1 w.heap.size _ opsC _ _ Hr.out
  have hb6 : Below w.heap.size w (w1.setRow w.heap.size opsC) := ⟨hb.1, hb.2, hb.3, by rw [size_setRow]; exact hb.4, fun i hi => (setRow_other w1 _ i _ (by omega)).trans (hb.5 i hi)⟩
  exact bodyPost_ret (v := .agg opsC) (results_cell_row rfl _ _ _ _ _ _ _ rfl r6 uOp rfl iO) rfl ⟨rfl, hb6⟩
end Go.Proofs.YtlbhggjkcfcobaaDoor
