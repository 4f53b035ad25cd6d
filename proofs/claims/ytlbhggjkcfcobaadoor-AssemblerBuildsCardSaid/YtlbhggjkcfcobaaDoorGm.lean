/- The laws' own example: awake, fails. Walk of the law AssemblerStops. -/
import Derived.Test.YtlbhggjkcfcobaaDoorGk
namespace Go.Proofs.YtlbhggjkcfcobaaDoor
open Go.RowKit Go.Proofs
set_option linter.unusedVariables false

def badB : AR → Nat → Int → Bool
  | .bad a e, b, f => decide (a = b) && decide (e = f)
  | .ok _ _, _, _ => false
def okB : AR → List Arr → List (List UInt8) → List (List UInt8) → List Ins → Bool
  | .bad _ _, _, _, _, _ => false
  | .ok s _, a, x, y, c => decide (s.arrs = a) && decide (s.an = x) && decide (s.ln = y) && decide (s.code = c)
theorem badB.eq {r : AR} {b : Nat} {f : Int} (h : badB r b f = true) : r = .bad b f := by
  cases r with
  | bad a e => simp [badB] at h; rw [h.1, h.2]
  | ok s r => simp [badB] at h
theorem okB.eq {r : AR} {a : List Arr} {x y : List (List UInt8)} {c : List Ins} (h : okB r a x y c = true) : ∃ s q, r = .ok s q ∧ s.arrs = a ∧ s.an = x ∧ s.ln = y ∧ s.code = c := by
  cases r with
  | bad a e => simp [okB] at h
  | ok s q => simp [okB] at h; exact ⟨s, q, rfl, h.1.1.1, h.1.1.2, h.1.2, h.2⟩
def sxP : List UInt8 := [98, 121, 116, 101, 115, 32, 116, 101, 120, 116, 32, 52, 32, 108, 111, 99, 97, 108, 32, 105, 32, 112, 117, 115, 104, 32, 48, 120, 49, 48, 32, 115, 116, 111, 114, 101, 32, 105, 32, 108, 111, 97, 100, 32, 105, 32, 103, 101, 116, 32, 116, 101, 120, 116]
def sx1 : List UInt8 := [112, 117, 115, 104, 32, 49, 32, 103, 101, 116, 32, 105]
def sx2 : List UInt8 := [112, 117, 115, 104]
def sx3 : List UInt8 := [112, 117, 115, 104, 32, 48, 49]
def sx4 : List UInt8 := [108, 111, 99, 97, 108, 32, 97, 32, 108, 111, 99, 97, 108, 32, 97]
def sx5 : List UInt8 := [119, 111, 114, 100, 115, 32, 119, 32, 54, 53, 53, 51, 55]
theorem eb1 : badB (readL sx1) 11 7 = true := by decide +kernel
theorem eb2 : badB (readL sx2) 4 4 = true := by decide +kernel
theorem eb3 : badB (readL sx3) 5 4 = true := by decide +kernel
theorem eb4 : badB (readL sx4) 14 8 = true := by decide +kernel
theorem eb5 : badB (readL sx5) 8 2 = true := by decide +kernel
theorem ebP : okB (readL sxP) [⟨false, 4⟩] [[116, 101, 120, 116]] [[105]] [⟨0, 16⟩, ⟨2, 0⟩, ⟨1, 0⟩, ⟨3, 0⟩] = true := by decide +kernel

set_option maxRecDepth 100000 in
set_option maxHeartbeats 2000000 in
theorem fails_any (src : List UInt8) (a : Nat) (er : Int) (w : World) (hr : readL src = .bad a er) (hs : src.length ≤ 100000000) (hE : ErrR w) : Calls Tryd.prog 27 #[.string (strB src), .int .i64 (a : Int), .int .i64 er] w fun e w' => e = .returned (.bool true) ∧ Below w.heap.size w w' := by
  have HR := assemble_any src w hs hE
  rw [hr] at HR
  have HR' := Lib.hid HR
  clear HR hr hs hE
  go_enter Tryd.func27, Tryd.ntmps27
  go_wp2_with fail
  refine HR'.out.mono ?_
  rintro e w1 ⟨rfl, hb1⟩
  have rr := rowV.new w1 27 #[.slice none 0 0, .int .i64 0, .slice none 0 0]
  have b2 := balloc hb1 (.cells #[.slice none 0 0, .int .i64 0, .slice none 0 0] 27)
  have HB := Lib.hid b2
  clear b2 hb1 HR'
  go_wp2_with fail
  go_ret
  exact ⟨rfl, HB.out⟩

def exQ : Prg := ⟨[⟨false, 4⟩], 1, [⟨0, 16⟩, ⟨2, 0⟩, ⟨1, 0⟩, ⟨3, 0⟩]⟩
def strsV (l : List (List UInt8)) : Array Value := (l.map fun x => Value.string (strB x)).toArray
theorem strs_of_rowV {w : World} {g c : Nat} {t : TypeId} {l : List (List UInt8)} (h : rowV w g t (strsV l)) (hc : l.length ≤ c) : StrsM w (some ⟨g, 0, none⟩) l.length c l := by
  refine ⟨rfl, hc, fun hn => ⟨g, 0, rfl, h.lt, fun i hi => ?_⟩⟩
  unfold rowV strsV at h
  simp only [World.cell?, h, Nat.zero_add]
  simp [List.getD_eq_getElem?_getD, hi]
def codesW (l : List Ins) : Array Value := (l.flatMap fun x => [.int .i64 x.op, .int .u32 x.arg]).toArray
def arrsW (l : List Arr) : Array Value := (l.flatMap fun x => [.bool x.word, .int .i64 x.size]).toArray
theorem flat2_getW {α : Type} (f g : α → Value) (d : α) : ∀ (l : List α) (k : Nat), k < l.length → (l.flatMap fun x => [f x, g x])[k * 2]? = some (f (l.getD k d)) ∧ (l.flatMap fun x => [f x, g x])[k * 2 + 1]? = some (g (l.getD k d))
  | [], k, h => by simp at h
  | x :: l, 0, _ => ⟨rfl, rfl⟩
  | x :: l, k + 1, h => by
    have := flat2_getW f g d l k (by simpa using h)
    rw [List.flatMap_cons, show (k + 1) * 2 = k * 2 + 2 by omega]
    exact this
theorem codes_of_rowW {w : World} {g c : Nat} {t : TypeId} {l : List Ins} (h : rowV w g t (codesW l)) (hc : l.length ≤ c) (hl : ∀ x ∈ l, 0 ≤ x.arg ∧ x.arg < 4294967296 ∧ (Lit.int .i64 x.op).wf = true) : Codes w (some ⟨g, 0, none⟩) l.length c l := by
  refine ⟨rfl, hc, hl, fun hn => ⟨g, 0, rfl, h.lt, fun i hi => ?_⟩⟩
  obtain ⟨h1, h2⟩ := flat2_getW (fun x : Ins => Value.int .i64 x.op) (fun x : Ins => Value.int .u32 x.arg) ⟨0, 0⟩ l i hi
  unfold rowV codesW at h
  simp only [World.cell?, h, Nat.zero_add]
  simp only [List.getElem?_toArray]
  exact ⟨h1, h2⟩
theorem arrs_of_rowW {w : World} {g c : Nat} {t : TypeId} {l : List Arr} (h : rowV w g t (arrsW l)) (hc : l.length ≤ c) (hl : ∀ x ∈ l, (Lit.int .i64 x.size).wf = true) : Arrs w (some ⟨g, 0, none⟩) l.length c l := by
  refine ⟨rfl, hc, hl, fun hn => ⟨g, 0, rfl, h.lt, fun i hi => ?_⟩⟩
  obtain ⟨h1, h2⟩ := flat2_getW (fun x : Arr => Value.bool x.word) (fun x : Arr => Value.int .i64 x.size) ⟨false, 0⟩ l i hi
  unfold rowV arrsW at h
  simp only [World.cell?, h, Nat.zero_add]
  simp only [List.getElem?_toArray]
  exact ⟨h1, h2⟩

theorem two_allocW (w : World) (a b : Array Value) (s t : TypeId) : Below w.heap.size w ((w.alloc (.cells a s)).alloc (.cells b t)) ∧ rowV ((w.alloc (.cells a s)).alloc (.cells b t)) w.heap.size s a ∧ rowV ((w.alloc (.cells a s)).alloc (.cells b t)) (w.heap.size + 1) t b := by
  have hb : Below w.heap.size w (w.alloc (.cells a s)) := balloc (Below.refl _ _) _
  have r1 := rowV.new w s a
  refine ⟨balloc hb _, r1.below ((Below.refl _ _).alloc (Nat.le_refl _) _) r1.lt, ?_⟩
  have h := rowV.new (w.alloc (.cells a s)) t b
  rw [show (w.alloc (.cells a s)).heap.size = w.heap.size + 1 by simp] at h
  exact h

set_option maxRecDepth 100000 in
set_option maxHeartbeats 4000000 in
theorem awake_any (w : World) (hE : ErrR w) : Calls Tryd.prog 11 #[] w fun e w' => e = .returned (.bool true) ∧ Below w.heap.size w w' := by
  obtain ⟨s, q, hr, hs1, hs2, hs3, hs4⟩ := okB.eq ebP
  have HP : ∀ W : World, ErrR W → Calls Tryd.prog 12 #[.string (strB sxP)] W fun e w' => ∃ A n c A' n' c', e = .returned (.tuple #[.agg #[.slice A n c, .int .i64 1, .slice A' n' c'], .int .i64 0, .int .i64 0]) ∧ (Progs w' A n c 1 A' n' c' exQ ∧ n = 1 ∧ n' = 4) ∧ Below W.heap.size W w' := fun W hW => by
    have h := assemble_any sxP W (by decide) hW
    rw [hr] at h
    refine h.mono ?_
    rintro e w' ⟨A, n, c, A', n', c', rfl, hp, hb⟩
    have hl : (s.ln.length : Int) = 1 := by rw [hs3]; rfl
    have hq : prgOf s = exQ := by unfold prgOf exQ; rw [hs1, hs4, hl]
    rw [hl, hq] at hp
    rw [hl]
    exact ⟨A, n, c, A', n', c', rfl, ⟨hp, hp.arrs.1.symm, hp.code.1.symm⟩, hb⟩
  have HN : ∀ W : World, ErrR W → Calls Tryd.prog 15 #[.string (strB sxP)] W fun e w' => ∃ A n c, e = .returned (.tuple #[.slice A n c, .int .i64 0, .int .i64 0]) ∧ StrsM w' A n c [[116, 101, 120, 116], [105]] ∧ Below W.heap.size W w' := fun W hW => by
    have h := names_any sxP W (by decide) hW
    rw [hr] at h
    refine h.mono ?_
    rintro e w' ⟨A, n, c, rfl, hp, hb⟩
    rw [hs2, hs3] at hp
    exact ⟨A, n, c, rfl, hp, hb⟩
  have HP := Lib.hid HP
  have HN := Lib.hid HN
  have HE := Lib.hid hE
  have F1 : Hid (∀ W : World, ErrR W → Calls Tryd.prog 27 #[.string (strB sx1), .int .i64 11, .int .i64 7] W fun e w' => e = .returned (.bool true) ∧ Below W.heap.size W w') := fun W h => fails_any sx1 11 7 W (badB.eq eb1) (by decide) h
  have F2 : Hid (∀ W : World, ErrR W → Calls Tryd.prog 27 #[.string (strB sx2), .int .i64 4, .int .i64 4] W fun e w' => e = .returned (.bool true) ∧ Below W.heap.size W w') := fun W h => fails_any sx2 4 4 W (badB.eq eb2) (by decide) h
  have F3 : Hid (∀ W : World, ErrR W → Calls Tryd.prog 27 #[.string (strB sx3), .int .i64 5, .int .i64 4] W fun e w' => e = .returned (.bool true) ∧ Below W.heap.size W w') := fun W h => fails_any sx3 5 4 W (badB.eq eb3) (by decide) h
  have F4 : Hid (∀ W : World, ErrR W → Calls Tryd.prog 27 #[.string (strB sx4), .int .i64 14, .int .i64 8] W fun e w' => e = .returned (.bool true) ∧ Below W.heap.size W w') := fun W h => fails_any sx4 14 8 W (badB.eq eb4) (by decide) h
  have F5 : Hid (∀ W : World, ErrR W → Calls Tryd.prog 27 #[.string (strB sx5), .int .i64 8, .int .i64 2] W fun e w' => e = .returned (.bool true) ∧ Below W.heap.size W w') := fun W h => fails_any sx5 8 2 W (badB.eq eb5) (by decide) h
  clear hr hs1 hs2 hs3 hs4 hE
  go_enter Tryd.func11, Tryd.ntmps11
  go_wp2_with fail
  refine (HP.out w HE.out).mono ?_
  rintro e w1 ⟨A, n, c, A', n', c', rfl, hp1, hb1⟩
  have rr := rowV.new w1 27 #[.slice A n c, .int .i64 1, .slice A' n' c']
  have b2 := balloc hb1 (.cells #[.slice A n c, .int .i64 1, .slice A' n' c'] 27)
  have H1 := Lib.hid (And.intro hp1.2 (And.intro (hp1.1.below ((Below.refl w1.heap.size w1).alloc (Nat.le_refl _) (.cells #[.slice A n c, .int .i64 1, .slice A' n' c'] 27))) (And.intro rr b2)))
  obtain ⟨wa, hwa⟩ : ∃ wa, wa = w1.alloc (.cells #[.slice A n c, .int .i64 1, .slice A' n' c'] 27) := ⟨_, rfl⟩
  have hsa : w1.heap.size < wa.heap.size := by rw [hwa]; simp
  rw [← hwa] at H1
  have HSA := Lib.hid hsa
  have HWA := Lib.hid hwa
  clear hp1 rr b2 hb1 hsa hwa
  go_wp2_with fail
  rw [← HWA.out]
  refine (HN.out wa (HE.out.below H1.out.2.2.2)).mono ?_
  rintro e w2 ⟨B, m, d, rfl, hq2, hb2⟩
  have H2 := Lib.hid (And.intro H1.out.1 (And.intro (H1.out.2.1.below hb2) (And.intro (H1.out.2.2.1.below hb2 HSA.out) (And.intro hq2 (H1.out.2.2.2.trans (hb2.mono H1.out.2.2.2.size))))))
  obtain ⟨g3, r3, r4⟩ := two_allocW w2 (arrsW exQ.arrs) (codesW exQ.code) 47 57
  have r5 := rowV.new ((w2.alloc (.cells #[.bool false, .int .i64 4] 47)).alloc (.cells #[.int .i64 0, .int .u32 16, .int .i64 2, .int .u32 0, .int .i64 1, .int .u32 0, .int .i64 3, .int .u32 0] 57)) 27 #[.slice (some ⟨w2.heap.size, 0, none⟩) 1 1, .int .i64 1, .slice (some ⟨w2.heap.size + 1, 0, none⟩) 4 4]
  have hs5 : ((w2.alloc (.cells #[.bool false, .int .i64 4] 47)).alloc (.cells #[.int .i64 0, .int .u32 16, .int .i64 2, .int .u32 0, .int .i64 1, .int .u32 0, .int .i64 3, .int .u32 0] 57)).heap.size = w2.heap.size + 1 + 1 := by simp
  rw [hs5] at r5
  have ga := ((Below.refl ((w2.alloc (.cells #[.bool false, .int .i64 4] 47)).alloc (.cells #[.int .i64 0, .int .u32 16, .int .i64 2, .int .u32 0, .int .i64 1, .int .u32 0, .int .i64 3, .int .u32 0] 57)).heap.size ((w2.alloc (.cells #[.bool false, .int .i64 4] 47)).alloc (.cells #[.int .i64 0, .int .u32 16, .int .i64 2, .int .u32 0, .int .i64 1, .int .u32 0, .int .i64 3, .int .u32 0] 57)))).alloc (Nat.le_refl _) (.cells #[.slice (some ⟨w2.heap.size, 0, none⟩) 1 1, .int .i64 1, .slice (some ⟨w2.heap.size + 1, 0, none⟩) 4 4] 27)
  have g5 : Below w2.heap.size w2 (((w2.alloc (.cells #[.bool false, .int .i64 4] 47)).alloc (.cells #[.int .i64 0, .int .u32 16, .int .i64 2, .int .u32 0, .int .i64 1, .int .u32 0, .int .i64 3, .int .u32 0] 57)).alloc (.cells #[.slice (some ⟨w2.heap.size, 0, none⟩) 1 1, .int .i64 1, .slice (some ⟨w2.heap.size + 1, 0, none⟩) 4 4] 27)) := balloc g3 _
  have r3 := r3.below ga r3.lt
  have r4 := r4.below ga r4.lt
  obtain ⟨x0, x1, x2⟩ := three_cellsV (H2.out.2.2.1.below g5 H2.out.2.2.1.lt)
  obtain ⟨y0, y1, y2⟩ := three_cellsV r5
  have hq : Progs (((w2.alloc (.cells #[.bool false, .int .i64 4] 47)).alloc (.cells #[.int .i64 0, .int .u32 16, .int .i64 2, .int .u32 0, .int .i64 1, .int .u32 0, .int .i64 3, .int .u32 0] 57)).alloc (.cells #[.slice (some ⟨w2.heap.size, 0, none⟩) 1 1, .int .i64 1, .slice (some ⟨w2.heap.size + 1, 0, none⟩) 4 4] 27)) (some ⟨w2.heap.size, 0, none⟩) 1 1 1 (some ⟨w2.heap.size + 1, 0, none⟩) 4 4 exQ := ⟨arrs_of_rowW (l := exQ.arrs) r3 (Nat.le_refl _) (by decide), rfl, codes_of_rowW (l := exQ.code) r4 (Nat.le_refl _) (by decide), by decide⟩
  have hd := same15_any A A' n c n' c' 1 (some ⟨w2.heap.size, 0, none⟩) (some ⟨w2.heap.size + 1, 0, none⟩) 1 1 4 4 1 exQ exQ _ (H2.out.2.1.below g5) hq (by have := H2.out.1.1; omega) (by have := H2.out.1.2; omega)
  have hsm : sameP exQ exQ = true := by decide
  rw [hsm] at hd
  have H3 := Lib.hid (And.intro hd (And.intro (H2.out.2.2.2.1.below g5) (H2.out.2.2.2.2.trans (g5.mono H2.out.2.2.2.2.size))))
  clear hq2 hb2 HWA hd g3 r3 r4 r5 hs5 ga g5 hq
  go_wp2_with fail
  refine H3.out.1.mono ?_
  rintro e w3 ⟨rfl, hb3⟩
  have b3 := H3.out.2.2.trans (hb3.mono H3.out.2.2.size)
  have n3 := H3.out.2.1.below hb3
  have rs := rowV.new w3 9 (strsV [[116, 101, 120, 116], [105]])
  have g4 : Below w3.heap.size w3 (w3.alloc (.cells #[.string ⟨#[116, 101, 120, 116]⟩, .string ⟨#[105]⟩] 9)) := balloc (Below.refl _ _) _
  have hsn := sameNames_any B (some ⟨w3.heap.size, 0, none⟩) m d 2 2 [[116, 101, 120, 116], [105]] [[116, 101, 120, 116], [105]] _ (n3.below g4) (strs_of_rowV (l := [[116, 101, 120, 116], [105]]) rs (Nat.le_refl _)) (by have := n3.1; simp at this; omega)
  rw [decide_eq_true rfl] at hsn
  have H4 := Lib.hid (And.intro hsn (b3.trans (g4.mono b3.size)))
  clear H1 H2 H3 HSA HP HN x0 x1 x2 y0 y1 y2 hsn g4 rs n3 b3 hb3
  go_wp2_with fail
  refine H4.out.1.mono ?_
  rintro e w4 ⟨rfl, hd4⟩
  have H5 := Lib.hid (H4.out.2.trans ((hd4.below _).mono H4.out.2.size))
  clear H4 hd4
  go_wp2_with fail
  refine (F1.out w4 (HE.out.below H5.out)).mono ?_
  rintro e w5 ⟨rfl, hb5⟩
  have H6 := Lib.hid (H5.out.trans (hb5.mono H5.out.size))
  clear H5 hb5
  go_wp2_with fail
  refine (F2.out w5 (HE.out.below H6.out)).mono ?_
  rintro e w6 ⟨rfl, hb6⟩
  have H7 := Lib.hid (H6.out.trans (hb6.mono H6.out.size))
  clear H6 hb6
  go_wp2_with fail
  refine (F3.out w6 (HE.out.below H7.out)).mono ?_
  rintro e w7 ⟨rfl, hb7⟩
  have H8 := Lib.hid (H7.out.trans (hb7.mono H7.out.size))
  clear H7 hb7
  go_wp2_with fail
  refine (F4.out w7 (HE.out.below H8.out)).mono ?_
  rintro e w8 ⟨rfl, hb8⟩
  have H9 := Lib.hid (H8.out.trans (hb8.mono H8.out.size))
  clear H8 hb8
  go_wp2_with fail
  refine (F5.out w8 (HE.out.below H9.out)).mono ?_
  rintro e w9 ⟨rfl, hb9⟩
  have HA := Lib.hid (H9.out.trans (hb9.mono H9.out.size))
  clear H9 hb9
  go_wp2_with fail
  go_ret
  exact ⟨rfl, HA.out⟩
end Go.Proofs.YtlbhggjkcfcobaaDoor
namespace Go.Proofs.YtlbhggjkcfcobaaDoor
open Go.RowKit Go.Proofs
set_option linter.unusedVariables false

def RetB (w : World) (b : Bool) (e : Ending) (w' : World) : Prop := e = .returned (.bool b) ∧ Below w.heap.size w w'
theorem run_cutS_h (x : List UInt8) {j : Nat} (hj : j ≤ x.length) (W : World) : (Instr.slice 9 (.string (strB x)) none (some (.int .i64 (j : Int))) none).run Tryd.prog W = .ok (.string (strB (x.take j))) W := by
  rw [run_slice_string_h W 9 (strB x) uS .i64 (j : Int) (by omega) (by rw [strB_size']; omega), strB_extract, Int.toNat_natCast]
  simp
/-- what Assemble returns: a program, a place, an error. -/
theorem asmE_any (src : List UInt8) (w : World) (hs : src.length ≤ 100000000) (hE : ErrR w) : Calls Tryd.prog 12 #[.string (strB src)] w fun e w' => ∃ A n c L A' n' c', e = .returned (.tuple #[.agg #[.slice A n c, .int .i64 L, .slice A' n' c'], .int .i64 (match readL src with | .bad a _ => (a : Int) | .ok _ _ => 0), .int .i64 (match readL src with | .bad _ er => er | .ok _ _ => 0)]) ∧ Below w.heap.size w w' := by
  refine (assemble_any src w hs hE).mono ?_
  cases readL src with
  | bad a er =>
    rintro e w' ⟨rfl, hb⟩
    exact ⟨_, _, _, _, _, _, _, rfl, hb⟩
  | ok s r =>
    rintro e w' ⟨A, n, c, A', n', c', rfl, hp, hb⟩
    exact ⟨_, _, _, _, _, _, _, rfl, hb⟩

set_option maxRecDepth 100000 in
set_option maxHeartbeats 4000000 in
theorem stops_any (src : List UInt8) (w : World) (hl : src.length < 9223372036854775808) (hE : ErrR w) : Calls Tryd.prog 6 #[.string (strB src)] w (RetB w true) := by
  have HE := Lib.hid hE
  clear hE
  by_cases h1 : 1000 < src.length
  · have d1 : decide ((1000 : Int) < (src.length : Int)) = true := by simp; omega
    have d1' : decide (1000 < src.length) = true := by simp; omega
    have hsz : (strB src).size = src.length := strB_size' src
    go_enter Tryd.func6, Tryd.ntmps6
    go_wp2_with fail
    refine (awake_any w HE.out).mono ?_
    rintro e w1 ⟨rfl, hb1⟩
    go_wp2_with fail
    go_ret
    exact ⟨rfl, hb1⟩
  · have d1 : decide ((1000 : Int) < (src.length : Int)) = false := by simp; omega
    have d1' : decide (1000 < src.length) = false := by simp; omega
    have hsz : (strB src).size = src.length := strB_size' src
    have HR := asmE_any src w (by omega) HE.out
    cases hr : readL src with
    | ok s r =>
      rw [hr] at HR
      dsimp only at HR
      have HR' := Lib.hid HR
      clear HR hr
      go_enter Tryd.func6, Tryd.ntmps6
      go_wp2_with fail
      refine HR'.out.mono ?_
      rintro e w1 ⟨A, n, c, L, A', n', c', rfl, hb1⟩
      have d2 : decide ((src.length : Int) < 0) = false := by simp
      have d2' : decide (src.length < 0) = false := by simp
      have b2 := balloc hb1 (.cells #[.slice A n c, .int .i64 L, .slice A' n' c'] 27)
      have H2 := Lib.hid b2
      have H3 := Lib.hid (awake_any _ (HE.out.below b2))
      clear b2 hb1 HR'
      go_wp2_with fail
      refine H3.out.mono ?_
      rintro e w2 ⟨rfl, hb2⟩
      have H4 := Lib.hid (H2.out.trans (hb2.mono H2.out.size))
      clear H2 H3 hb2
      go_wp2_with fail
      go_ret
      exact ⟨rfl, H4.out⟩
    | bad a er =>
      have hne := readL_ne hr
      obtain ⟨hal, hst⟩ := readL_stop (by omega) hr
      rw [hr] at HR
      dsimp only at HR
      have HR' := Lib.hid HR
      have HT := Lib.hid (fun W h => asmE_any (src.take a) W (by rw [List.length_take]; omega) h)
      have HS : Hid (∃ k f : Nat, (match readL (src.take a) with | .bad b _ => (b : Int) | .ok _ _ => 0) = (k : Int) ∧ (match readL (src.take a) with | .bad _ x => x | .ok _ _ => 0) = (f : Int) ∧ ((k = 0 ∧ f = 0) ∨ (k = a ∧ f = 4))) := by
        rcases hst with ⟨s', r', h⟩ | h
        · exact ⟨0, 0, by rw [h]; rfl, by rw [h]; rfl, Or.inl ⟨rfl, rfl⟩⟩
        · exact ⟨a, 4, by rw [h], by rw [h]; rfl, Or.inr ⟨rfl, rfl⟩⟩
      have HA := Lib.hid hal
      have dne : (er == 0) = false := by simpa using hne
      have hcut := Lib.hid (run_cutS_h src hal)
      have e1 : decide ((a : Int) < 0) = false := by simp
      have e1' : decide (a < 0) = false := by simp
      have e2 : decide ((src.length : Int) < (a : Int)) = false := by simp; omega
      have e2' : decide (src.length < a) = false := by simp; omega
      clear HR hr hst hne hal
      go_enter Tryd.func6, Tryd.ntmps6
      go_wp2_with fail
      refine HR'.out.mono ?_
      rintro e w1 ⟨A, n, c, L, A', n', c', rfl, hb1⟩
      have b2 := balloc hb1 (.cells #[.slice A n c, .int .i64 L, .slice A' n' c'] 27)
      obtain ⟨k, f, hk, hf, hkf⟩ := HS.out
      have H3 := Lib.hid (HT.out _ (HE.out.below b2))
      rw [hk, hf] at H3
      have H2 := Lib.hid b2
      have HKF := Lib.hid hkf
      have hcut := hcut.out
      clear b2 hb1 HR' HT HS hk hf hkf
      go_wp2_with fail
      refine H3.out.mono ?_
      rintro e w2 ⟨B, m, d, M, B', m', d', rfl, hb2⟩
      have b3 := H2.out.trans (hb2.mono H2.out.size)
      have b4 := balloc b3 (.cells #[.slice B m d, .int .i64 M, .slice B' m' d'] 27)
      have H5 := Lib.hid (awake_any _ (HE.out.below b4))
      have H6 := Lib.hid b4
      clear b3 b4 hb2 H2 H3 hcut
      go_wp2_with fail
      refine H5.out.mono ?_
      rintro e w3 ⟨rfl, hb3⟩
      have H7 := Lib.hid (H6.out.trans (hb3.mono H6.out.size))
      clear H5 H6 hb3
      rcases HKF.out with ⟨rfl, rfl⟩ | ⟨rfl, rfl⟩
      · clear HKF
        go_wp2_with fail
        go_ret
        exact ⟨rfl, H7.out⟩
      · clear HKF
        go_wp2_with fail
        go_ret
        exact ⟨rfl, H7.out⟩
end Go.Proofs.YtlbhggjkcfcobaaDoor
