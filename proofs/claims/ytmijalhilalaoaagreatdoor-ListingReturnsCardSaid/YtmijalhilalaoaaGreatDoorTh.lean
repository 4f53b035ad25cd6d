/- Contracts of layer 17: Print, Line. -/
import Derived.Test.YtmijalhilalaoaaGreatDoorTg
namespace Go.Proofs.YtmijalhilalaoaaGreatDoor
open Go.RowKit Go.Proofs
set_option linter.unusedVariables false

theorem dAt_le (c : List Ins) : ∀ k, dAt c k ≤ k
  | 0 => Nat.le_refl _
  | k + 1 => by
    have := dAt_le c k
    rw [dAt]
    unfold dNext
    split
    · omega
    · split <;> omega
theorem dSp_le (d : Nat) (op : Int) : dSp d op ≤ d := by unfold dSp; split <;> omega
theorem operL_le {i : Ins} (h : i.arg < 4294967296) : (operL i).length ≤ 13 := by
  have := decS_le (n := i.arg.toNat) (by omega)
  unfold operL decI
  split
  · simp; omega
  · split
    · simp; omega
    · split
      · simp; omega
      · simp
theorem name_le (op : Int) : (opX op).name.length ≤ 100 := by
  unfold opX
  split
  · rename_i h
    exact (by decide +kernel : ∀ a : Fin 36, (opO a.val).name.length ≤ 100) ⟨op.toNat, by omega⟩
  · simp
theorem lineL_le {i : Ins} (h : i.arg < 4294967296) : (lineL i).length ≤ 113 := by
  unfold lineL
  rw [List.length_append]
  have := operL_le h
  have := name_le i.op
  omega
theorem rowL_le {c : List Ins} {k : Nat} (h : (gI c k).arg < 4294967296) : (rowL c k).length ≤ 2 * k + 113 := by
  unfold rowL spL
  rw [List.length_append, List.length_replicate]
  have := lineL_le h
  have := dAt_le c k
  have := dSp_le (dAt c k) (gI c k).op
  omega
theorem arrL_le {k : Nat} {x : Arr} (hk : k ≤ 100) (hx : x.size ≤ 65536) : (arrL k x).length ≤ 113 := by
  unfold arrL decI
  have h1 := decS_le (n := k) (by omega)
  have h2 := decS_le (n := x.size.toNat) (by omega)
  have h3 : (kindT x.word).length = 5 := by cases x.word <;> rfl
  simp only [List.length_append, List.length_cons, List.length_nil]
  omega
theorem locL_le {k : Nat} (hk : k ≤ 100) : (locL k).length ≤ 113 := by
  unfold locL
  have h1 := decS_le (n := k) (by omega)
  simp only [List.length_append, List.length_cons, List.length_nil]
  omega
theorem nlAll_le : ∀ {l : List (List UInt8)} {m : Nat}, (∀ x ∈ l, x.length ≤ m) → (nlAll l).length ≤ l.length * (m + 1)
  | [], m, _ => by simp [nlAll]
  | x :: l, m, h => by
    have := nlAll_le (l := l) (m := m) (fun y hy => h y (by simp [hy]))
    have hx := h x (by simp)
    rw [nlAll_cons, List.length_append, List.length_cons, List.length_cons, Nat.succ_mul]
    omega
theorem linesL_le {p : Prg} (h : formE p = 0) (ha : ∀ i ∈ p.code, i.arg < 4294967296) : (linesL p).length ≤ 1048 ∧ ∀ x ∈ linesL p, x.length ≤ 2200 := by
  obtain ⟨f1, f2, f3, f4, f5, f6⟩ := formE_ok h
  refine ⟨?_, fun x hx => ?_⟩
  · unfold linesL declL arrsTo locsTo rowsTo
    simp
    omega
  · unfold linesL declL at hx
    rcases List.mem_append.1 hx with hx | hx
    · rcases List.mem_append.1 hx with hx | hx
      · obtain ⟨k, hk, rfl⟩ := List.mem_map.1 hx
        have hk' := List.mem_range.1 hk
        have := arrL_le (k := k) (x := gA p.arrs k) (by omega) (by have := f2 _ (gA_mem hk'); omega)
        omega
      · obtain ⟨k, hk, rfl⟩ := List.mem_map.1 hx
        have hk' := List.mem_range.1 hk
        have := locL_le (k := k) (by omega)
        omega
    · obtain ⟨k, hk, rfl⟩ := List.mem_map.1 hx
      have hk' := List.mem_range.1 hk
      have := rowL_le (c := p.code) (k := k) (ha _ (gI_mem hk'))
      omega
theorem textL_le {p : Prg} (h : formE p = 0) (ha : ∀ i ∈ p.code, i.arg < 4294967296) : (textL p).length ≤ 3000000 := by
  obtain ⟨h1, h2⟩ := linesL_le h ha
  have h3 := nlAll_le h2
  have : (linesL p).length * (2200 + 1) ≤ 1048 * 2201 := Nat.mul_le_mul_right _ h1
  unfold textL
  omega
theorem printE_form {p : Prg} (h : formE p ≠ 0) : printE p = formE p ∧ printT p = [] := by
  have : printE p = formE p := by unfold printE; rw [if_pos h]
  exact ⟨this, by unfold printT; rw [this, if_neg h]⟩
theorem printE_none {p : Prg} (h : formE p = 0) (he : exAll p = false) : printE p = 7 ∧ printT p = [] := by
  have : printE p = 7 := by unfold printE; rw [if_neg (by omega), if_pos he]
  exact ⟨this, by unfold printT; rw [this, if_neg (by omega)]⟩
theorem printE_long {p : Prg} (h : formE p = 0) (he : exAll p = true) (hl : 8192 < (textL p).length) : printE p = 5 ∧ printT p = [] := by
  have : printE p = 5 := by unfold printE; rw [if_neg (by omega), if_neg (by rw [he]; simp), if_pos hl]
  exact ⟨this, by unfold printT; rw [this, if_neg (by omega)]⟩
theorem printE_ok {p : Prg} (h : formE p = 0) (he : exAll p = true) (hl : ¬ 8192 < (textL p).length) : printE p = 0 ∧ printT p = textL p := by
  have : printE p = 0 := by unfold printE; rw [if_neg (by omega), if_neg (by rw [he]; simp), if_neg hl]
  exact ⟨this, by unfold printT; rw [this, if_pos rfl]⟩
def RetSE (w : World) (s : List UInt8) (x : Int) (e : Ending) (w' : World) : Prop := e = .returned (.tuple #[.string (strB s), .int .i64 x]) ∧ Below w.heap.size w w'
theorem ret_se {w w' : World} {s s' : List UInt8} {x x' : Int} {b : ByteArray} (hb : b = strB s) (h : s' = s) (hx : x' = x) (hw : Below w.heap.size w w') : RetSE w s' x' (.returned (.tuple #[.string b, .int .i64 x])) w' := by
  subst h hx hb; exact ⟨rfl, hw⟩

set_option maxRecDepth 100000 in
set_option maxHeartbeats 4000000 in
theorem print_any (A A' : Option Addr) (n c n' c' : Nat) (L : Int) (p : Prg) (w : World) (hx : Progs w A n c L A' n' c' p) (hT : TabI w) :
    Calls Tryz.prog 7 #[.agg #[.slice A n c, .int .i64 L, .slice A' n' c']] w (RetSE w (printT p) (printE p)) := by
  have HnA := Lib.hid hx.arrs.1
  have HnC := Lib.hid hx.code.1
  have HL := Lib.hid hx.locs
  have hwf := Lib.hid hx.wf
  have g0 : Below w.heap.size w (w.alloc (.cells #[.slice A n c, .int .i64 L, .slice A' n' c'] 25)) := balloc (Below.refl _ _) _
  have r0 := rowV.new w 25 #[.slice A n c, .int .i64 L, .slice A' n' c']
  have hx0 := hx.below g0
  obtain ⟨w0, hw0⟩ : ∃ w0, w0 = w.alloc (.cells #[.slice A n c, .int .i64 L, .slice A' n' c'] 25) := ⟨_, rfl⟩
  rw [← hw0] at g0 r0 hx0
  have H1 := Lib.hid (encode_any A A' n c n' c' L p w0 hx0)
  have hT0 := hT.below g0
  obtain ⟨c0, c1, c2⟩ := three_cells r0
  go_enter Tryz.func7, Tryz.ntmps7
  go_wp2_with fail
  rw [← hw0]
  clear hw0
  refine H1.out.mono ?_
  rintro e w1 ⟨A1, n1, q1, rfl, hb1⟩
  have b1 := g0.trans (hb1.mono g0.size)
  have r1 := r0.below hb1 r0.lt
  have hx1 := hx0.below hb1
  have hT1 := hT0.below hb1
  clear H1 hx0 g0 hb1 c0 c1 c2
  obtain ⟨c0, c1, c2⟩ := three_cells r1
  by_cases h1 : formE p = 0
  · have d1 : (formE p != 0) = false := by simp [h1]
    obtain ⟨f1, f2, f3, f4, f5, f6⟩ := formE_ok h1
    rw [HnA.out] at f1
    rw [HnC.out] at f5
    have hF := Lib.hid h1
    have H2 := Lib.hid (declsT_any A A' n c n' c' L p w1 hx1 h1 hT1)
    clear f2 f3 f4 f6 h1
    go_wp2_with fail
    refine H2.out.mono ?_
    rintro e w2 ⟨A2, n2, q2, rfl, hn2, ho2, hb2⟩
    clear H2
    go_wp2_with fail
    refine (indenter_any w2).mono ?_
    rintro e w3 ⟨g, rfl, hg, rg, hb3⟩
    have hB2 := hb2.size
    have ho3 := ho2.below hb3
    have b3 := hb2.trans (hb3.mono hB2)
    have r3 := r1.below b3 r1.lt
    obtain ⟨c0, c1, c2⟩ := three_cells r3
    have hgB : w1.heap.size ≤ g := by omega
    have hd0 : Hid (declL p ++ rowsTo p.code 0 = declL p) := by show _ = _; unfold rowsTo; simp
    unfold indV
    go_wp2_with fail
    go_loopw [6, 27] (fun d i wr => ∃ (k c3 : Nat) (A3 : Option Addr), k ≤ n' ∧ i = .int .i64 (k : Int) ∧ d = .slice A3 (n2 + k) c3 ∧ Own encT wr w1.heap.size 9 A3 (n2 + k) c3 (declL p ++ rowsTo p.code k) ∧ rowV wr g 3 #[.int .i64 ((dAt p.code k : Nat) : Int)] ∧ Hid (exTo p k) ∧ Below w1.heap.size w1 wr) (fun _ i _ => n' - (intOf i).toNat)
    case atStart => exact ⟨0, _, _, Nat.zero_le _, rfl, rfl, hd0.out.symm ▸ ho3, rg, fun j hj => absurd hj (by omega), b3⟩
    case round =>
      clear ho3 b3 r3 c0 c1 c2 rg ho2 hb2 hb3
      obtain ⟨k, c3, A3, hk, rfl, rfl, ho3, rg, HX, hb3⟩ := hrel
      have r3 := r1.below hb3 r1.lt
      obtain ⟨c0, c1, c2⟩ := three_cells r3
      by_cases hlt : k < n'
      · have e1 : decide ((k : Int) < (n' : Int)) = true := by simp; omega
        have e1' : decide (k < n') = true := by simp; omega
        obtain ⟨b, off, rfl, hbl, hcell⟩ := (hx1.code.below hb3).get hlt
        obtain ⟨q1, q2⟩ := hcell k hlt
        obtain ⟨a0, a1, -⟩ := hx1.code.arg hlt
        clear hcell
        have HS := Lib.hid (rowsTo_succ p.code k)
        have HR : Hid (rowL p.code k = spL (dSp (dAt p.code k) (gI p.code k).op) ++ lineL (gI p.code k)) := rfl
        have HD : Hid (dAt p.code (k + 1) = dNext (dAt p.code k) (gI p.code k).op) := rfl
        have HB := Lib.hid (fun h => exAll_false (p := p) (k := k) (by rw [HnC.out]; exact hlt) h)
        have HG := Lib.hid (fun h => HX.out.step (k := k) h)
        have hdk := dAt_le p.code k
        have zl := lineL_le a1
        have zs := dSp_le (dAt p.code k) (gI p.code k).op
        rw [HnA.out] at HB HG
        rw [← HL.out] at HB HG
        obtain ⟨x, hxe⟩ : ∃ x, x = gI p.code k := ⟨_, rfl⟩
        rw [← hxe] at q1 q2 a0 a1 HR HD HB HG zl zs
        clear hxe HX
        obtain ⟨op, arg⟩ := x
        dsimp only at q1 q2 a0 a1
        have g4 := (Below.refl wr.heap.size wr).alloc (Nat.le_refl _) (.cells #[.int .i64 op, .int .u32 arg] 41)
        have r4 := rowV.new wr 41 #[.int .i64 op, .int .u32 arg]
        obtain ⟨w4, hw4⟩ : ∃ w4, w4 = wr.alloc (.cells #[.int .i64 op, .int .u32 arg] 41) := ⟨_, rfl⟩
        rw [← hw4] at g4 r4
        have b4 := hb3.trans (g4.mono hb3.size)
        have r14 := r3.below g4 r3.lt
        have ho4 := ho3.below g4
        have rg4 := rg.below g4 rg.lt
        obtain ⟨c0, c1, c2⟩ := three_cells r14
        obtain ⟨t0, t1⟩ := two_cellsV r4
        have H5 := Lib.hid (line_any A (some ⟨b, off, none⟩) n c n' c' L ⟨op, arg⟩ w4 hwf.out (by omega) a0 a1 (hT1.below b4))
        have Hw4 := Lib.hid hw4
        clear hw4
        go_upto_region 9 with (fail)
        rw [← Hw4.out]
        clear Hw4
        go_wp2_with fail
        refine H5.out.mono ?_
        rintro e w5 ⟨rfl, hb5⟩
        have b5 := b4.trans (hb5.mono b4.size)
        have r15 := r14.below hb5 r14.lt
        have ho5 := ho4.below hb5
        have rg5 := rg4.below hb5 rg4.lt
        have r5 := r4.below hb5 r4.lt
        clear H5 hb5 c0 c1 c2 t0 t1 ho3 ho4 r4 r14 rg rg4 g4
        obtain ⟨t0, t1⟩ := two_cellsV r5
        obtain ⟨xe, hxe⟩ : ∃ xe, xe = exL L n ⟨op, arg⟩ := ⟨_, rfl⟩
        rw [← hxe] at HB HG ⊢
        clear hxe
        obtain ⟨ln, hln⟩ : ∃ ln, ln = lineL ⟨op, arg⟩ := ⟨_, rfl⟩
        rw [← hln] at HR zl ⊢
        clear hln
        cases xe with
        | false =>
          obtain ⟨z1, z2⟩ := printE_none hF.out (HB.out rfl)
          have Z1 := Lib.hid z1
          have Z2 := Lib.hid z2
          clear z1 z2
          go_wp2_with fail
          go_ret2
          exact ret_se rfl Z2.out Z1.out (b1.trans (b5.mono b1.size))
        | true =>
          obtain ⟨dk, hdk'⟩ : ∃ dk, dk = dAt p.code k := ⟨_, rfl⟩
          rw [← hdk'] at hdk zs HR HD rg5
          clear hdk'
          have H6 := Lib.hid (indent_any g dk op w5 rg5 (by omega))
          obtain ⟨sd, hsd⟩ : ∃ sd, sd = dSp dk op := ⟨_, rfl⟩
          try dsimp only at HR HD
          rw [← hsd] at zs HR H6
          clear hsd
          go_wp2_with fail
          refine H6.out.mono ?_
          rintro e w6 ⟨rfl, rg6, hg6⟩
          have hneO := own_ne ho5 rg5 (by decide)
          have ho6 := ho5.grown hg6 (.inr hneO)
          have b6 := b5.grown hg6 b5.size (fun k hk => by injection hk with hk; omega)
          have hs : ¬ 9223372036854775807 < (strB (spL sd)).size + (strB ln).size := by
            rw [strB_size, strB_size]; unfold spL; rw [List.length_replicate]; omega
          have HV : Hid (encT (rowL p.code k) = .string (strB (spL sd) ++ strB ln)) := by
            show Value.string (strB (rowL p.code k)) = _
            rw [HR.out, strB_append]
          have m1 : Hid (n2 + k + 1 ≤ maxLen ∧ (n2 + k + 1) * 16 ≤ 140737488355328) := ⟨by simp [maxLen]; omega, by omega⟩
          have hne6 := own_ne ho6 rg6 (by decide)
          have hB6 := b6.size
          have Rg6 := Lib.hid rg6
          have Hne6 := Lib.hid hne6
          clear H6 hg6 hneO ho5 rg5 t0 t1 r5 hne6 rg6
          go_wp2_with (at_builtin; refine wpList_pushg (enc := encT) rfl (.tmp 39) (.tmp 46) rfl uSs infoS encT_one rfl rfl ho6 hB6 (rowL p.code k) _ HV.out rfl m1.out.1 m1.out.2 ?_; intro A8 c8 w8 ho8 hb8 hg8)
          have rg8 := Rg6.out.grown hg8 Hne6.out
          go_roundw
          case rel => exact ⟨k + 1, _, _, by omega, by go_num, rfl, by rw [HS.out, ← List.append_assoc]; exact ho8, by rw [HD.out]; exact rg8, HG.out (by first | exact trivial | rfl), b6.trans hb8⟩
          case measure => simp [intOf]; omega
      · have e1 : decide ((k : Int) < (n' : Int)) = false := by simp; omega
        have e1' : decide (k < n') = false := by simp; omega
        obtain rfl : n' = k := by omega
        have HE : Hid (exAll p = true) := exAll_true (by rw [HnC.out]; exact HX.out)
        have HJ : Hid (Lib.join (declL p ++ rowsTo p.code n' ++ [[]]) [10] = textL p) := by
          show _ = _
          rw [join_lines]; unfold textL linesL; rw [HnC.out]
        have htl := textL_le hF.out (fun i hi => (hx.code.2.2.1 i hi).2.1)
        have m1 : Hid (n2 + n' + 1 ≤ maxLen ∧ (n2 + n' + 1) * 16 ≤ 140737488355328) := ⟨by simp [maxLen]; omega, by omega⟩
        have hB3 := hb3.size
        go_wp2_with (at_builtin; refine wpList_pushg (enc := encT) rfl (.tmp 49) (.tmp 50) rfl uSs infoS encT_one rfl rfl ho3 hB3 [] _ rfl rfl m1.out.1 m1.out.2 ?_; intro A8 c8 w8 ho8 hb8 hg8)
        refine (join_own _ _ _ _ _ _ ho8 (by omega) (by rw [HJ.out]; omega) (by omega)).mono ?_
        rintro e w9 ⟨rfl, hb9⟩
        rw [HJ.out]
        have b8 := hb3.trans hb8
        have b9 := b1.trans ((b8.trans (hb9.mono b8.size)).mono b1.size)
        obtain ⟨tx, htx⟩ : ∃ tx, tx = textL p := ⟨_, rfl⟩
        have Htx := Lib.hid htx
        rw [← htx] at htl ⊢
        clear htx hg8 ho8 hb8 hb9 b8
        have hsz := strB_size tx
        by_cases h2 : 8192 < tx.length
        · obtain ⟨z1, z2⟩ := printE_long hF.out HE.out (Htx.out ▸ h2)
          have Z1 := Lib.hid z1
          have Z2 := Lib.hid z2
          clear z1 z2
          have d2 : decide ((8192 : Int) < (tx.length : Int)) = true := by simp; omega
          have d2' : decide (8192 < tx.length) = true := by simp; omega
          go_wp2_with fail
          go_ret2
          exact ret_se rfl Z2.out Z1.out b9
        · obtain ⟨z1, z2⟩ := printE_ok hF.out HE.out (Htx.out ▸ h2)
          have Z1 := Lib.hid z1
          have Z2 := Lib.hid z2
          clear z1 z2
          have d2 : decide ((8192 : Int) < (tx.length : Int)) = false := by simp; omega
          have d2' : decide (8192 < tx.length) = false := by simp; omega
          go_wp2_with fail
          go_ret2
          exact ret_se rfl (Z2.out.trans Htx.out.symm) Z1.out b9
  · have d1 : (formE p != 0) = true := by simp [h1]
    obtain ⟨z1, z2⟩ := printE_form h1
    have Z1 := Lib.hid z1
    have Z2 := Lib.hid z2
    clear z1 z2
    go_wp2_with fail
    go_ret2
    exact ret_se rfl Z2.out Z1.out b1
end Go.Proofs.YtmijalhilalaoaaGreatDoor
