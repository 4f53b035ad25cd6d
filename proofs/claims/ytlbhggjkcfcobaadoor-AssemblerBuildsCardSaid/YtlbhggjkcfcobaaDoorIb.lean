/- Contracts of layer 15: known, Name, Check, arrays, form. -/
import Derived.Test.YtlbhggjkcfcobaaDoorIa
namespace Go.Proofs.YtlbhggjkcfcobaaDoor
open Go.RowKit Go.Proofs
set_option linter.unusedVariables false

theorem flat_part {α β : Type} (f : α → List β) (m : Nat) (hf : ∀ x, (f x).length = m) (d : α) : ∀ (l : List α) (k : Nat), k < l.length → ((l.flatMap f).drop (k * m)).take m = f (l.getD k d)
  | [], k, h => by simp at h
  | x :: l, 0, _ => by
    rw [Nat.zero_mul, List.drop_zero, List.flatMap_cons]
    rw [List.take_append_of_le_length (by rw [hf]; exact Nat.le_refl _), List.take_of_length_le (by rw [hf]; exact Nat.le_refl _)]
    rfl
  | x :: l, k + 1, h => by
    rw [List.flatMap_cons, show (k + 1) * m = m + k * m by rw [Nat.succ_mul, Nat.add_comm], List.drop_append, hf, List.drop_of_length_le (by rw [hf]; omega), List.nil_append, show m + k * m - m = k * m by omega, flat_part f m hf d l k (by simpa using h)]
    rfl
theorem opTab_length : opTab.length = 36 := by decide +kernel
def aggO (x : Opn) : Value := .agg #[.string (strB x.name), .string (strB x.pops), .string (strB x.pushes), .int .u64 (x.limit : Int), .bool x.arg]
theorem ops_part {k : Nat} (hk : k < 36) : opsC.extract (k * 5) (k * 5 + 5) = #[.string (strB (opO k).name), .string (strB (opO k).pops), .string (strB (opO k).pushes), .int .u64 ((opO k).limit : Int), .bool (opO k).arg] := by
  have h := flat_part opnV 5 (fun _ => rfl) ⟨[], [], [], 0, false⟩ opTab k (by rw [opTab_length]; exact hk)
  apply Array.toList_inj.1
  unfold opsC
  rw [Array.toList_extract]
  simp only [List.extract_eq_take_drop, Nat.add_sub_cancel_left]
  rw [h]
  rfl
theorem size_opn (W : World) : (sizeOf 82).run Tryd.prog W = .ok 5 W := by kernel_rfl
theorem run_index_ops {k : Nat} (hk : k < 36) (W : World) : (Instr.index 116 (.agg opsC) (.int .i64 (k : Int))).run Tryd.prog W = .ok (aggO (opO k)) W := by
  have hs := size_opn W
  have hp := ops_part hk
  simp [Instr.index, go_sem, hk, part, hs, aggO]
  exact hp

theorem five_cells {w : World} {g : Nat} {t : TypeId} {fr : Nat × Nat} {a b c d e : Value} (h : w.heap[g]? = some (.cells #[a, b, c, d, e] t fr)) :
    w.cell? ⟨g, 0, none⟩ = some a ∧ w.cell? ⟨g, 1, none⟩ = some b ∧ w.cell? ⟨g, 2, none⟩ = some c ∧ w.cell? ⟨g, 3, none⟩ = some d ∧ w.cell? ⟨g, 4, none⟩ = some e := by
  refine ⟨?_, ?_, ?_, ?_, ?_⟩ <;> simp [World.cell?, h]
/-- what is known of an operation. -/
def opX (op : Int) : Opn := if 0 ≤ op ∧ op < 36 then opO op.toNat else ⟨[], [], [], 0, false⟩
def okX (op : Int) : Bool := decide (0 ≤ op ∧ op < 36)
set_option maxRecDepth 100000 in
theorem known_any (op : Int) (w : World) : Calls Tryd.prog 34 #[.int .i64 op] w fun e w' => e = .returned (.tuple #[aggO (opX op), .bool (okX op)]) ∧ Below w.heap.size w w' := by
  have zs : strB [] = ⟨#[]⟩ := rfl
  by_cases h1 : op < 0
  · have d1 : decide (op < 0) = true := by simpa using h1
    have hX : Hid (opX op = ⟨[], [], [], 0, false⟩ ∧ okX op = false) := by refine ⟨?_, ?_⟩; (unfold opX; rw [if_neg (by omega)]); (unfold okX; exact decide_eq_false (by omega))
    go_enter Tryd.func34, Tryd.ntmps34
    go_wp2_with fail
    rw [hX.out.1, hX.out.2]
    refine bodyPost_ret (v := .tuple #[.agg #[.string ⟨#[]⟩, .string ⟨#[]⟩, .string ⟨#[]⟩, .int .u64 0, .bool false], .bool false]) (by simp [results, Tryd.results34, go_sem]) rfl ⟨rfl, ?_⟩
    exact balloc (Below.refl _ _) _
  · have d1 : decide (op < 0) = false := by simpa using h1
    by_cases h2 : 36 ≤ op
    · have d2 : decide (36 ≤ op) = true := by simpa using h2
      have hX : Hid (opX op = ⟨[], [], [], 0, false⟩ ∧ okX op = false) := by refine ⟨?_, ?_⟩; (unfold opX; rw [if_neg (by omega)]); (unfold okX; exact decide_eq_false (by omega))
      go_enter Tryd.func34, Tryd.ntmps34
      go_wp2_with fail
      rw [hX.out.1, hX.out.2]
      refine bodyPost_ret (v := .tuple #[.agg #[.string ⟨#[]⟩, .string ⟨#[]⟩, .string ⟨#[]⟩, .int .u64 0, .bool false], .bool false]) (by simp [results, Tryd.results34, go_sem]) rfl ⟨rfl, ?_⟩
      exact balloc (Below.refl _ _) _
    · have d2 : decide (36 ≤ op) = false := by simpa using h2
      obtain ⟨k, rfl⟩ : ∃ k : Nat, op = (k : Int) := ⟨op.toNat, by omega⟩
      have hX : Hid (opX (k : Int) = opO k ∧ okX (k : Int) = true) := by refine ⟨?_, ?_⟩; (unfold opX; rw [if_pos (by omega)]; rfl); (unfold okX; exact decide_eq_true (by omega))
      have hix := run_index_ops (k := k) (by omega)
      unfold aggO at hix
      obtain ⟨x, hx⟩ : ∃ x, x = opO k := ⟨_, rfl⟩
      rw [← hx] at hix hX
      clear hx h1 h2
      have hb0 : Below w.heap.size w (w.alloc (.cells #[.string ⟨#[]⟩, .string ⟨#[]⟩, .string ⟨#[]⟩, .int .u64 0, .bool false] 82)) := balloc (Below.refl _ _) _
      have r0 := rowV.new w 82 #[.string ⟨#[]⟩, .string ⟨#[]⟩, .string ⟨#[]⟩, .int .u64 0, .bool false]
      go_enter Tryd.func34, Tryd.ntmps34
      go_wp2_with fail
      refine (operations_any _).mono ?_
      rintro e w1 ⟨rfl, hb1⟩
      have b1 := hb0.trans (hb1.mono hb0.size)
      have r1 := r0.below hb1 r0.lt
      clear hb0 r0 hb1
      have hi : (Tryd.prog.info? 82).map (·.size) = some (#[Value.string (strB x.name), .string (strB x.pops), .string (strB x.pushes), .int .u64 (x.limit : Int), .bool x.arg] : Array Value).size := by kernel_rfl
      have hall : (#[Value.string (strB x.name), .string (strB x.pops), .string (strB x.pushes), .int .u64 (x.limit : Int), .bool x.arg] : Array Value).all (·.oneCell') = true := by simp [Value.oneCell']
      have hold : (#[Value.string ⟨#[]⟩, .string ⟨#[]⟩, .string ⟨#[]⟩, .int .u64 0, .bool false] : Array Value).size = (#[Value.string (strB x.name), .string (strB x.pops), .string (strB x.pushes), .int .u64 (x.limit : Int), .bool x.arg] : Array Value).size := rfl
      have Hr := Lib.hid r1
      have Ha := Lib.hid hall
      have Ho := Lib.hid hold
      have Hi := Lib.hid hi
      clear hall hold hi r1
      go_wp2_with (refine wpList_store_row rfl 82 (.tmp 2) (.tmp 13) rfl _ _ rfl rfl _ _ Hr.out Hi.out Ho.out Ha.out ?_)
      have r1 := Hr.out
      have hi := Hi.out
      have r6 := setRow_heap w1 w.heap.size _ #[.string (strB x.name), .string (strB x.pops), .string (strB x.pushes), .int .u64 (x.limit : Int), .bool x.arg] _ _ r1
      have hb6 : Below w.heap.size w (w1.setRow w.heap.size #[.string (strB x.name), .string (strB x.pops), .string (strB x.pushes), .int .u64 (x.limit : Int), .bool x.arg]) := ⟨b1.1, b1.2, b1.3, by rw [size_setRow]; exact b1.4, fun i hi => (setRow_other w1 _ i _ (by omega)).trans (b1.5 i hi)⟩
      rw [hX.out.1, hX.out.2]
      unfold aggO
      refine bodyPost_ret (v := .tuple #[.agg #[.string (strB x.name), .string (strB x.pops), .string (strB x.pushes), .int .u64 (x.limit : Int), .bool x.arg], .bool true]) ?_ rfl ⟨rfl, hb6⟩
      obtain ⟨W6, hW6⟩ : ∃ W6, W6 = w1.setRow w.heap.size #[.string (strB x.name), .string (strB x.pops), .string (strB x.pushes), .int .u64 (x.limit : Int), .bool x.arg] := ⟨_, rfl⟩
      rw [← hW6] at r6 ⊢
      obtain ⟨c0, c1, c2, c3, c4⟩ := five_cells r6
      clear hW6 r6 hb6 r1 b1
      simp [results, Tryd.results34, go_sem, c0, c1, c2, c3, c4]

theorem name_any (op : Int) (w : World) : Calls Tryd.prog 20 #[.int .i64 op] w fun e w' => e = .returned (.string (strB (opX op).name)) ∧ Below w.heap.size w w' := by
  have H := Lib.hid (known_any op w)
  obtain ⟨x, hx⟩ : ∃ x, x = opX op := ⟨_, rfl⟩
  rw [← hx] at H ⊢
  unfold aggO at H
  clear hx
  go_enter Tryd.func20, Tryd.ntmps20
  go_wp2_with fail
  refine H.out.mono ?_
  rintro e w1 ⟨rfl, hb1⟩
  go_wp2_with fail
  go_ret
  exact ⟨rfl, balloc hb1 _⟩

/-- the error of an instruction. -/
def chkE (i : Ins) : Int := if okX i.op = false then 1 else if ((opX i.op).limit : Int) ≤ i.arg then 2 else 0
theorem check_any (i : Ins) (w : World) (h0 : 0 ≤ i.arg) (h1 : i.arg < 4294967296) : Calls Tryd.prog 59 #[.agg #[.int .i64 i.op, .int .u32 i.arg]] w fun e w' => e = .returned (.int .i64 (chkE i)) ∧ Below w.heap.size w w' := by
  obtain ⟨op, arg⟩ := i
  dsimp only at h0 h1 ⊢
  have hb0 : Below w.heap.size w (w.alloc (.cells #[.int .i64 op, .int .u32 arg] 57)) := balloc (Below.refl _ _) _
  have H := Lib.hid (known_any op (w.alloc (.cells #[.int .i64 op, .int .u32 arg] 57)))
  have hE : Hid (chkE ⟨op, arg⟩ = if okX op = false then 1 else if ((opX op).limit : Int) ≤ arg then 2 else 0) := rfl
  have c1 : (w.alloc (.cells #[.int .i64 op, .int .u32 arg] 57)).cell? ⟨w.heap.size, 1, none⟩ = some (.int .u32 arg) := by simp
  have hlt : w.heap.size < (w.alloc (.cells #[.int .i64 op, .int .u32 arg] 57)).heap.size := by simp
  obtain ⟨w0, hw0⟩ : ∃ w0, w0 = w.alloc (.cells #[.int .i64 op, .int .u32 arg] 57) := ⟨_, rfl⟩
  obtain ⟨x, hx⟩ : ∃ x, x = opX op := ⟨_, rfl⟩
  rw [← hx] at H hE
  unfold aggO at H
  clear hx
  have hw : IntKind.u64.wrap arg = arg := by simp [IntKind.wrap, IntKind.bits, IntKind.signed]; omega
  cases hok : okX op with
  | false =>
    rw [hok] at H hE
    rw [if_pos rfl] at hE
    rw [hE.out]
    rw [← hw0] at H hb0 c1 hlt
    go_enter Tryd.func59, Tryd.ntmps59
    go_wp2_with fail
    rw [← hw0]
    refine H.out.mono ?_
    rintro e w1 ⟨rfl, hb1⟩
    have b1 := hb0.trans (hb1.mono hb0.size)
    clear H hw0
    go_wp2_with fail
    go_ret
    exact ⟨rfl, balloc b1 _⟩
  | true =>
    rw [hok] at H hE
    rw [if_neg (by simp)] at hE
    rw [← hw0] at H hb0 c1 hlt
    by_cases hl : (x.limit : Int) ≤ arg
    · have d1 : decide ((x.limit : Int) ≤ arg) = true := by simpa using hl
      rw [if_pos hl] at hE
      rw [hE.out]
      go_enter Tryd.func59, Tryd.ntmps59
      go_wp2_with fail
      rw [← hw0]
      refine H.out.mono ?_
      rintro e w1 ⟨rfl, hb1⟩
      have b1 := hb0.trans (hb1.mono hb0.size)
      have c2 := (hb1.cell (p := ⟨w.heap.size, 1, none⟩) hlt).trans c1
      have c3 : ∀ o : Obj, (w1.alloc o).cell? ⟨w.heap.size, 1, none⟩ = some (.int .u32 arg) := fun o => (((Below.refl w1.heap.size w1).alloc (Nat.le_refl _) o).cell (p := ⟨w.heap.size, 1, none⟩) (Nat.lt_of_lt_of_le hlt hb1.size)).trans c2
      clear H hw0
      go_wp2_with fail
      go_ret
      exact ⟨rfl, balloc b1 _⟩
    · have d1 : decide ((x.limit : Int) ≤ arg) = false := by simpa using hl
      rw [if_neg hl] at hE
      rw [hE.out]
      go_enter Tryd.func59, Tryd.ntmps59
      go_wp2_with fail
      rw [← hw0]
      refine H.out.mono ?_
      rintro e w1 ⟨rfl, hb1⟩
      have b1 := hb0.trans (hb1.mono hb0.size)
      have c2 := (hb1.cell (p := ⟨w.heap.size, 1, none⟩) hlt).trans c1
      have c3 : ∀ o : Obj, (w1.alloc o).cell? ⟨w.heap.size, 1, none⟩ = some (.int .u32 arg) := fun o => (((Below.refl w1.heap.size w1).alloc (Nat.le_refl _) o).cell (p := ⟨w.heap.size, 1, none⟩) (Nat.lt_of_lt_of_le hlt hb1.size)).trans c2
      clear H hw0
      go_wp2_with fail
      go_ret
      exact ⟨rfl, balloc b1 _⟩
end Go.Proofs.YtlbhggjkcfcobaaDoor
