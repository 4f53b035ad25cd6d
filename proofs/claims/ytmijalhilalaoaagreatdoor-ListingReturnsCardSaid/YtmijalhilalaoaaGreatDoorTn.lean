/- Contracts of the laws' own functions: example, awake. -/
import Derived.Test.YtmijalhilalaoaaGreatDoorTm
namespace Go.Proofs.YtmijalhilalaoaaGreatDoor
open Go.RowKit Go.Proofs
set_option linter.unusedVariables false

theorem flat2_get {α : Type} (f g : α → Value) (d : α) : ∀ (l : List α) (k : Nat), k < l.length → (l.flatMap fun x => [f x, g x])[k * 2]? = some (f (l.getD k d)) ∧ (l.flatMap fun x => [f x, g x])[k * 2 + 1]? = some (g (l.getD k d))
  | [], k, h => by simp at h
  | x :: l, 0, _ => ⟨rfl, rfl⟩
  | x :: l, k + 1, h => by
    have := flat2_get f g d l k (by simpa using h)
    rw [List.flatMap_cons, show (k + 1) * 2 = k * 2 + 2 by omega]
    exact this
def codesV (l : List Ins) : Array Value := (l.flatMap fun x => [.int .i64 x.op, .int .u32 x.arg]).toArray
def arrsV (l : List Arr) : Array Value := (l.flatMap fun x => [.bool x.word, .int .i64 x.size]).toArray
theorem codes_of_rowV {w : World} {g c : Nat} {t : TypeId} {l : List Ins} (h : rowV w g t (codesV l)) (hc : l.length ≤ c) (hl : ∀ x ∈ l, 0 ≤ x.arg ∧ x.arg < 4294967296 ∧ (Lit.int .i64 x.op).wf = true) : Codes w (some ⟨g, 0, none⟩) l.length c l := by
  refine ⟨rfl, hc, hl, fun hn => ⟨g, 0, rfl, h.lt, fun i hi => ?_⟩⟩
  obtain ⟨h1, h2⟩ := flat2_get (fun x : Ins => Value.int .i64 x.op) (fun x : Ins => Value.int .u32 x.arg) ⟨0, 0⟩ l i hi
  unfold rowV codesV at h
  simp only [World.cell?, h, Nat.zero_add]
  simp only [List.getElem?_toArray]
  exact ⟨h1, h2⟩
theorem arrs_of_rowV {w : World} {g c : Nat} {t : TypeId} {l : List Arr} (h : rowV w g t (arrsV l)) (hc : l.length ≤ c) (hl : ∀ x ∈ l, (Lit.int .i64 x.size).wf = true) : Arrs w (some ⟨g, 0, none⟩) l.length c l := by
  refine ⟨rfl, hc, hl, fun hn => ⟨g, 0, rfl, h.lt, fun i hi => ?_⟩⟩
  obtain ⟨h1, h2⟩ := flat2_get (fun x : Arr => Value.bool x.word) (fun x : Arr => Value.int .i64 x.size) ⟨false, 0⟩ l i hi
  unfold rowV arrsV at h
  simp only [World.cell?, h, Nat.zero_add]
  simp only [List.getElem?_toArray]
  exact ⟨h1, h2⟩
def exP : Prg := ⟨[⟨false, 4⟩], 1, [⟨0, 2⟩, ⟨29, 0⟩, ⟨32, 0⟩, ⟨2, 0⟩, ⟨31, 0⟩]⟩
def exA : Prg := ⟨[], 0, [⟨0, 1⟩, ⟨34, 0⟩]⟩
def exB : Prg := ⟨[], 0, [⟨0, 1⟩, ⟨6, 0⟩]⟩
def decG : Nat → Nat → List UInt8
  | 0, _ => []
  | f + 1, n => if n < 10 then [digB n] else decG f (n / 10) ++ [digB (n % 10)]
theorem decG_eq : ∀ (f n : Nat), n < f → decG f n = decS n
  | 0, n, h => by omega
  | f + 1, n, h => by
    rw [decG]
    by_cases h1 : n < 10
    · rw [if_pos h1, decS_small h1]
    · rw [if_neg h1, decS_big h1, decG_eq f (n / 10) (by omega)]
theorem decS_eq : decS = fun n => decG (n + 1) n := by funext n; exact (decG_eq (n + 1) n (by omega)).symm
theorem exP_form : formE exP = 0 := by decide +kernel
theorem exP_text : textL exP = [98, 121, 116, 101, 115, 32, 97, 48, 32, 52, 10, 108, 111, 99, 97, 108, 32, 108, 48, 10, 112, 117, 115, 104, 32, 50, 10, 108, 111, 111, 112, 10, 32, 32, 105, 110, 112, 117, 116, 10, 32, 32, 115, 116, 111, 114, 101, 32, 108, 48, 10, 101, 110, 100, 10] := by
  have h : textL exP = nlAll (arrsTo exP.arrs 1 ++ locsTo 1 ++ rowsTo exP.code 5) := rfl
  rw [h]
  unfold arrsTo locsTo rowsTo rowL lineL operL arrL locL decI
  rw [decS_eq]
  decide +kernel
theorem exP_print : printT exP = textL exP ∧ printE exP = 0 := by
  obtain ⟨h1, h2⟩ := printE_ok exP_form (by decide +kernel) (by rw [exP_text]; decide)
  exact ⟨h2, h1⟩
theorem exP_line : lineT exP 3 = [115, 116, 111, 114, 101, 32, 108, 48] ∧ lineE exP 3 = 0 := by
  obtain ⟨h1, h2⟩ := lineE_ok (p := exP) (k := 3) exP_form (by decide) (by decide +kernel)
  refine ⟨h2.trans ?_, h1⟩
  unfold lineL operL decI
  rw [decS_eq]
  decide +kernel
theorem exAB : difN exA.code exB.code = 1 ∧ (!decide (exA.code = exB.code)) = true := by decide +kernel

set_option maxRecDepth 100000 in
set_option maxHeartbeats 2000000 in
theorem example_any (w : World) : Calls Tryz.prog 11 #[] w fun e w' => ∃ g g', e = .returned (.agg #[.slice (some ⟨g, 0, none⟩) 1 1, .int .i64 1, .slice (some ⟨g', 0, none⟩) 5 5]) ∧ Progs w' (some ⟨g, 0, none⟩) 1 1 1 (some ⟨g', 0, none⟩) 5 5 exP ∧ Below w.heap.size w w' := by
  go_enter Tryz.func11, Tryz.ntmps11
  go_wp2_with fail
  have r1 := rowV.new w 25 #[.slice (some ⟨w.heap.size + 1 + 1, 0, none⟩) 1 1, .int .i64 1, .slice (some ⟨w.heap.size + 1, 0, none⟩) 5 5]
  obtain ⟨wa, hwa⟩ : ∃ wa, wa = w.alloc (.cells #[.slice (some ⟨w.heap.size + 1 + 1, 0, none⟩) 1 1, .int .i64 1, .slice (some ⟨w.heap.size + 1, 0, none⟩) 5 5] 25) := ⟨_, rfl⟩
  have hsa : wa.heap.size = w.heap.size + 1 := by rw [hwa]; simp
  have ga : Below w.heap.size w wa := by rw [hwa]; exact balloc (Below.refl _ _) _
  rw [← hwa] at r1 ⊢
  clear hwa
  have r2 := rowV.new wa 41 (codesV exP.code)
  obtain ⟨wb, hwb⟩ : ∃ wb, wb = wa.alloc (.cells (codesV exP.code) 41) := ⟨_, rfl⟩
  have hsb : wb.heap.size = w.heap.size + 1 + 1 := by rw [hwb]; simp [hsa]
  have gb' : Below w.heap.size w wb := by rw [hwb]; exact balloc ga _
  have r1b : rowV wb w.heap.size 25 #[.slice (some ⟨w.heap.size + 1 + 1, 0, none⟩) 1 1, .int .i64 1, .slice (some ⟨w.heap.size + 1, 0, none⟩) 5 5] := by rw [hwb]; exact r1.below ((Below.refl _ _).alloc (Nat.le_refl _) _) r1.lt
  rw [← hwb, hsa] at r2
  show bodyPost _ _ _ _ _ (World.alloc (wa.alloc (.cells (codesV exP.code) 41)) (.cells (arrsV exP.arrs) 61))
  rw [← hwb]
  clear hwb
  have r3 := rowV.new wb 61 (arrsV exP.arrs)
  have gc : Below w.heap.size w (wb.alloc (.cells (arrsV exP.arrs) 61)) := balloc gb' _
  have gbc := (Below.refl wb.heap.size wb).alloc (Nat.le_refl _) (.cells (arrsV exP.arrs) 61)
  have r1c := r1b.below gbc r1b.lt
  have r2c := r2.below gbc r2.lt
  rw [hsb] at r3
  obtain ⟨wc, hwc⟩ : ∃ wc, wc = wb.alloc (.cells (arrsV exP.arrs) 61) := ⟨_, rfl⟩
  rw [← hwc] at r3 gc r1c r2c ⊢
  clear hwc
  obtain ⟨c0, c1, c2⟩ := three_cells r1c
  refine bodyPost_ret (v := .agg #[.slice (some ⟨w.heap.size + 1 + 1, 0, none⟩) 1 1, .int .i64 1, .slice (some ⟨w.heap.size + 1, 0, none⟩) 5 5]) (by simp [results, Tryz.results11, go_sem, c0, c1, c2]) rfl
    ⟨_, _, rfl, ⟨arrs_of_rowV (l := exP.arrs) r3 (Nat.le_refl _) (by decide), rfl, codes_of_rowV (l := exP.code) r2c (Nat.le_refl _) (by decide), by decide⟩, gc⟩

set_option maxRecDepth 100000 in
set_option maxHeartbeats 2000000 in
theorem awake_any (w : World) (hT : TabI w) : Calls Tryz.prog 6 #[] w (RetB w true) := by
  have hpT : ∀ (A A' : Option Addr) (W : World), Progs W A 1 1 1 A' 5 5 exP → TabI W → Calls Tryz.prog 7 #[.agg #[.slice A 1 1, .int .i64 1, .slice A' 5 5]] W fun e w' => e = .returned (.tuple #[.string ⟨#[98, 121, 116, 101, 115, 32, 97, 48, 32, 52, 10, 108, 111, 99, 97, 108, 32, 108, 48, 10, 112, 117, 115, 104, 32, 50, 10, 108, 111, 111, 112, 10, 32, 32, 105, 110, 112, 117, 116, 10, 32, 32, 115, 116, 111, 114, 101, 32, 108, 48, 10, 101, 110, 100, 10]⟩, .int .i64 0]) ∧ Below W.heap.size W w' := fun A A' W hx hT => by
    have h := print_any A A' 1 1 5 5 1 exP W hx hT
    rw [exP_print.1, exP_print.2, exP_text] at h
    exact h.mono fun e w' h => h
  have hlT : ∀ (A A' : Option Addr) (W : World), Progs W A 1 1 1 A' 5 5 exP → TabI W → Calls Tryz.prog 12 #[.agg #[.slice A 1 1, .int .i64 1, .slice A' 5 5], .int .i64 3] W fun e w' => e = .returned (.tuple #[.string ⟨#[115, 116, 111, 114, 101, 32, 108, 48]⟩, .int .i64 0]) ∧ Below W.heap.size W w' := fun A A' W hx hT => by
    have h := lineP_any A A' 1 1 5 5 1 3 exP W hx (by decide) hT
    rw [exP_line.1, exP_line.2] at h
    exact h.mono fun e w' h => h
  have HP := Lib.hid hpT
  have HL := Lib.hid hlT
  clear hpT hlT
  go_enter Tryz.func6, Tryz.ntmps6
  go_wp2_with fail
  refine (example_any _).mono ?_
  rintro e w1 ⟨g, g', rfl, hx1, hb1⟩
  have hT1 := hT.below hb1
  have H1 := Lib.hid (HP.out _ _ w1 hx1 hT1)
  clear hx1
  go_wp2_with fail
  refine H1.out.mono ?_
  rintro e w2 ⟨rfl, hb2⟩
  have b2 := hb1.trans (hb2.mono hb1.size)
  have hT2 := hT.below b2
  clear H1 hb1 hb2
  go_wp2_with fail
  refine (example_any _).mono ?_
  rintro e w3 ⟨g3, g3', rfl, hx3, hb3⟩
  have b3 := b2.trans (hb3.mono b2.size)
  have H1 := Lib.hid (HL.out _ _ w3 hx3 (hT.below b3))
  clear hx3
  go_wp2_with fail
  refine H1.out.mono ?_
  rintro e w4 ⟨rfl, hb4⟩
  have b4 := b3.trans (hb4.mono b3.size)
  clear H1 hb4 hb3
  go_wp2_with fail
  obtain ⟨g5, r5, r6⟩ := two_alloc w4 (codesV exA.code) (codesV exB.code) 41 41
  show Calls _ _ _ ((w4.alloc (.cells (codesV exA.code) 41)).alloc (.cells (codesV exB.code) 41)) _
  obtain ⟨w5, hw5⟩ : ∃ w5, w5 = (w4.alloc (.cells (codesV exA.code) 41)).alloc (.cells (codesV exB.code) 41) := ⟨_, rfl⟩
  rw [← hw5] at g5 r5 r6 ⊢
  clear hw5
  have b5 := b4.trans (g5.mono b4.size)
  have hd := differ_any none (some ⟨w4.heap.size, 0, none⟩) 0 0 2 2 0 none (some ⟨w4.heap.size + 1, 0, none⟩) 0 0 2 2 0 exA exB w5
    ⟨⟨rfl, Nat.le_refl _, by simp [exA], fun h => absurd h (by omega)⟩, rfl, codes_of_rowV (l := exA.code) r5 (Nat.le_refl _) (by decide), by decide⟩
    ⟨⟨rfl, Nat.le_refl _, by simp [exB], fun h => absurd h (by omega)⟩, rfl, codes_of_rowV (l := exB.code) r6 (Nat.le_refl _) (by decide), by decide⟩ (by omega) (by omega)
  rw [exAB.1, exAB.2] at hd
  have Hd := Lib.hid hd
  clear hd
  refine Hd.out.mono ?_
  rintro e w6 ⟨rfl, hb6⟩
  have b6 := b5.trans (hb6.mono b5.size)
  clear Hd hb6
  go_wp2_with fail
  go_ret
  exact ⟨rfl, b6⟩
end Go.Proofs.YtmijalhilalaoaaGreatDoor
