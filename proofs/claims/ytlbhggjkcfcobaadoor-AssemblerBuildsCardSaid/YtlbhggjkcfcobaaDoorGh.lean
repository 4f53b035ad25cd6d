/- The contract of the assembler's read. (Printed by wip/mkread.py.) -/
import Derived.Test.YtlbhggjkcfcobaaDoorGg
namespace Go.Proofs.YtlbhggjkcfcobaaDoor
open Go.RowKit Go.Proofs
set_option linter.unusedVariables false

theorem wordsA_bnd {src : List UInt8} : ∀ i, i ≤ src.length → (wordsA src i).length ≤ src.length - i ∧ ∀ x ∈ wordsA src i, x.1.length ≤ src.length ∧ x.2 ≤ src.length := by
  refine wordsA_cases _ (fun i hi => ?_) (fun i hi ih => ?_)
  · rw [wordsA_end (by omega)]; simp
  · rcases wordsA_next hi with ⟨h1, h2, h3, h4⟩ | ⟨h1, h2, h4⟩ | ⟨h1, h2, h3, h4⟩
    · rw [h4]; have := ih _ h2 h3; exact ⟨by omega, this.2⟩
    · rw [h4]; have := ih (i + 1) (by omega) (by omega); exact ⟨by omega, this.2⟩
    · rw [h4]
      have := ih _ h2 h3
      refine ⟨by simp only [List.length_cons]; omega, fun x hx => ?_⟩
      rcases List.mem_cons.1 hx with rfl | hx
      · exact ⟨by dsimp only; rw [List.length_take]; omega, by dsimp only; omega⟩
      · exact this.2 x hx
theorem words_mem {w : World} {B0 B : Nat} {A : Option Addr} {k c : Nat} {l : List Wd} (h : OwnS encW 2 w B0 97 A k c l) (hB : w.heap.size ≤ B) (hl : ∀ x ∈ l, x.1.length ≤ 9000 ∧ x.2 ≤ 9000) : WordsM B w A k c l := by
  refine ⟨h.length (fun _ => rfl) (by decide), h.cap, hl, fun hn => ?_⟩
  obtain ⟨b, hA, _, hlt, hc⟩ := h.get (fun _ => rfl) (by decide) (([], 0) : Wd) hn
  refine ⟨b, 0, hA, by omega, fun i hi => ⟨?_, ?_⟩⟩
  · have := hc i 0 (.string (strB (gW l i).1)) hi rfl
    simpa using this
  · have := hc i 1 (.int .i64 ((gW l i).2 : Int)) hi rfl
    simpa using this
def ReadQ (r : AR) (n : Nat) (w : World) (e : Ending) (w' : World) : Prop := match r with
  | .bad a er => e = .returned (.tuple #[.pointer none, .int .i64 (a : Int), .int .i64 er]) ∧ Below w.heap.size w w'
  | .ok s r => ∃ g B v, e = .returned (.tuple #[.pointer (some ⟨g, 0, none⟩), .int .i64 0, .int .i64 0]) ∧ w.heap.size ≤ B ∧ RD B g n w' s r v ∧ Below w.heap.size w w'
set_option maxRecDepth 100000 in
set_option maxHeartbeats 8000000 in
theorem read_main (src : List UInt8) (w : World) (hs : src.length ≤ 8192) (hE : ErrR w) : Calls Tryd.prog 28 #[.string (strB src)] w (ReadP src w) := by
  have hl : readL src = readW src.length AS.start (wordsL src) := readL_eq hs
  have hbn := wordsA_bnd (src := src) 0 (Nat.zero_le _)
  have hbw : (wordsL src).length ≤ 8192 ∧ ∀ x ∈ wordsL src, x.1.length ≤ 9000 ∧ x.2 ≤ 9000 := ⟨by have := hbn.1; show (wordsA src 0).length ≤ 8192; omega, fun x hx => by have := hbn.2 x hx; omega⟩
  show Calls _ _ _ _ (ReadQ (readL src) src.length w)
  rw [hl]
  obtain ⟨WL, hWL⟩ : ∃ WL, WL = wordsL src := ⟨_, rfl⟩
  have hsz := strB_size' src
  have d1 : decide ((8192 : Int) < (src.length : Int)) = false := by simp; omega
  have d1' : decide (8192 < src.length) = false := by simp; omega
  have hmf : ∀ (fn : Fn) (first cap : Array Value) (w : World), (Instr.makeFunc fn first cap).run Tryd.prog w = .ok (.func fn first cap) w := fun _ _ _ _ => rfl
  have hmk : ∀ W : World, (Instr.makeMap 71 none).run Tryd.prog W = .ok (.map (some W.heap.size)) (W.alloc (.map #[] 0)) := fun W => run_makeMap_plain W _
  have g7 : 7 < w.heap.size := by obtain ⟨ev, h1, _⟩ := hE; exact World.block_lt_of_cell? w _ h1
  obtain ⟨W3, hW3⟩ : ∃ W3, W3 = ((w.alloc (.cells #[.pointer none] 67)).alloc (.cells #[.int .i64 0] 3)).alloc (.cells #[.int .i64 0] 28) := ⟨_, rfl⟩
  have b3 : Below w.heap.size w W3 := by rw [hW3]; exact balloc (balloc (balloc (Below.refl _ _) _) _) _
  have s3 : W3.heap.size = w.heap.size + 3 := by rw [hW3]; simp
  have p0 : rowV W3 w.heap.size 67 #[.pointer none] := by
    rw [hW3]
    have r := rowV.new w 67 #[.pointer none]
    exact (r.below (balloc (Below.refl _ _) _) r.lt).below (balloc (Below.refl _ _) _) (r.below (balloc (Below.refl _ _) _) r.lt).lt
  have p1 : rowV W3 (w.heap.size + 1) 3 #[.int .i64 0] := by
    rw [hW3]
    have r := rowV.new (w.alloc (.cells #[.pointer none] 67)) 3 #[.int .i64 0]
    have r' := r.below (balloc (Below.refl _ _) (.cells #[.int .i64 0] 28)) r.lt
    simpa using r'
  have p2 : rowV W3 (w.heap.size + 1 + 1) 28 #[.int .i64 0] := by
    rw [hW3]
    have r := rowV.new ((w.alloc (.cells #[.pointer none] 67)).alloc (.cells #[.int .i64 0] 3)) 28 #[.int .i64 0]
    simpa using r
  have HSp := Lib.hid (split_any ixAny src W3 hs)
  have HE0 := Lib.hid hE
  rw [← hWL] at HSp hbw ⊢
  obtain ⟨RR, hRR⟩ : ∃ RR, RR = readW src.length AS.start WL := ⟨_, rfl⟩
  rw [← hRR]
  have HRR := Lib.hid hRR
  clear hRR
  have HBW := Lib.hid hbw
  have HP := Lib.hid (And.intro p0 (And.intro p1 (And.intro p2 (And.intro b3 s3))))
  clear hl hbn hbw hWL p0 p1 p2 b3 s3 hE
  go_enter_defers Tryd.func28, Tryd.ntmps28
  go_wp2_with fail
  rw [← hW3]
  clear hW3
  refine HSp.out.mono ?_
  rintro e w4 ⟨A, k, c, rfl, ho, hb4⟩
  obtain ⟨p0, p1, p2, b3, s3⟩ := HP.out
  have hw4 : w.heap.size + 3 ≤ w4.heap.size := by have := hb4.size; omega
  have p0' := p0.below hb4 p0.lt
  have p1' := p1.below hb4 p1.lt
  have p2' := p2.below hb4 p2.lt
  have hw4l : w.heap.size < w4.heap.size := by omega
  have y0 := cell_rowV p0' (j := 0) rfl
  have z0 := frozen_rowV' p0' 0
  have hk4 : k ≤ 8192 := by have := ho.length (fun _ => rfl) (by decide); have := HBW.out.1; omega
  -- the world behind the reader's making
  obtain ⟨E, hEq⟩ : ∃ E, E = ((w4.setCell ⟨w.heap.size, 0, none⟩ (.pointer (some ⟨w4.heap.size + 1, 0, none⟩))).alloc (.map #[] 0)).alloc (.cells #[.slice A k c, .int .i64 (src.length : Int), .slice none 0 0, .int .i64 0, .slice none 0 0, .slice none 0 0, .slice none 0 0, .map (some w4.heap.size)] 73) := ⟨_, rfl⟩
  have sE : E.heap.size = w4.heap.size + 2 := by rw [hEq]; simp [World.setCell]
  have bS : Below w.heap.size w (w4.setCell ⟨w.heap.size, 0, none⟩ (.pointer (some ⟨w4.heap.size + 1, 0, none⟩))) := (b3.trans (hb4.mono b3.size)).trans (Below.setG (Nat.le_refl _) _)
  have bE : Below w.heap.size w E := by rw [hEq]; exact balloc (balloc bS _) _
  have aE : ∀ {j : Nat} {o : Obj}, j < w4.heap.size → (w4.setCell ⟨w.heap.size, 0, none⟩ (.pointer (some ⟨w4.heap.size + 1, 0, none⟩))).heap[j]? = some o → E.heap[j]? = some o := fun {j o} hj h => by
    have hj' : j < (w4.setCell ⟨w.heap.size, 0, none⟩ (.pointer (some ⟨w4.heap.size + 1, 0, none⟩))).heap.size := (Array.getElem?_eq_some_iff.1 h).1
    have hb := balloc (balloc (Below.refl (w4.setCell ⟨w.heap.size, 0, none⟩ (.pointer (some ⟨w4.heap.size + 1, 0, none⟩))).heap.size (w4.setCell ⟨w.heap.size, 0, none⟩ (.pointer (some ⟨w4.heap.size + 1, 0, none⟩)))) (.map #[] 0)) (.cells #[.slice A k c, .int .i64 (src.length : Int), .slice none 0 0, .int .i64 0, .slice none 0 0, .slice none 0 0, .slice none 0 0, .map (some w4.heap.size)] 73)
    rw [← hEq] at hb
    exact (hb.block j hj').trans h
  have q0 : rowV E w.heap.size 67 #[.pointer (some ⟨w4.heap.size + 1, 0, none⟩)] := aE (by omega) (p0'.set 0 _)
  have q1 : rowV E (w.heap.size + 1) 3 #[.int .i64 0] := aE (by omega) (p1'.setFar (p := ⟨w.heap.size, 0, none⟩) (by show w.heap.size + 1 ≠ w.heap.size; omega) _)
  have q2 : rowV E (w.heap.size + 1 + 1) 28 #[.int .i64 0] := aE (by omega) (p2'.setFar (p := ⟨w.heap.size, 0, none⟩) (by show w.heap.size + 1 + 1 ≠ w.heap.size; omega) _)
  have rE : rowV E (w4.heap.size + 1) 73 #[.slice A k c, .int .i64 (src.length : Int), .slice none 0 0, .int .i64 0, .slice none 0 0, .slice none 0 0, .slice none 0 0, .map (some w4.heap.size)] := by
    have r := rowV.new ((w4.setCell ⟨w.heap.size, 0, none⟩ (.pointer (some ⟨w4.heap.size + 1, 0, none⟩))).alloc (.map #[] 0)) 73 #[.slice A k c, .int .i64 (src.length : Int), .slice none 0 0, .int .i64 0, .slice none 0 0, .slice none 0 0, .slice none 0 0, .map (some w4.heap.size)]
    rw [← hEq] at r
    have es : ((w4.setCell ⟨w.heap.size, 0, none⟩ (.pointer (some ⟨w4.heap.size + 1, 0, none⟩))).alloc (.map #[] 0)).heap.size = w4.heap.size + 1 := by simp [World.setCell]
    rw [es] at r
    exact r
  have mE : MapIs Tryd.prog 9 3 .i64 E w4.heap.size 0 (fun _ => none) := by
    have r := MapIs.made (P := Tryd.prog) (k := 9) (e := 3) (q := .i64) (w4.setCell ⟨w.heap.size, 0, none⟩ (.pointer (some ⟨w4.heap.size + 1, 0, none⟩)))
    have es : (w4.setCell ⟨w.heap.size, 0, none⟩ (.pointer (some ⟨w4.heap.size + 1, 0, none⟩))).heap.size = w4.heap.size := by simp [World.setCell]
    rw [es] at r
    have hb := balloc (Below.refl ((w4.setCell ⟨w.heap.size, 0, none⟩ (.pointer (some ⟨w4.heap.size + 1, 0, none⟩))).alloc (.map #[] 0)).heap.size _) (.cells #[.slice A k c, .int .i64 (src.length : Int), .slice none 0 0, .int .i64 0, .slice none 0 0, .slice none 0 0, .slice none 0 0, .map (some w4.heap.size)] 73)
    rw [← hEq] at hb
    exact r.below hb
  have wE : WordsM w4.heap.size E A k c WL := by
    have h1 := words_mem ho (Nat.le_refl w4.heap.size) HBW.out.2
    refine ⟨h1.1, h1.2.1, h1.2.2.1, fun hn => ?_⟩
    obtain ⟨b, off, hA, hlt, hcell⟩ := h1.2.2.2 hn
    refine ⟨b, off, hA, hlt, fun i hi => ?_⟩
    obtain ⟨q, hq⟩ : ∃ o, w4.heap[b]? = some o := ⟨_, Array.getElem?_eq_getElem hlt⟩
    have hbne : b ≠ w.heap.size := fun e => by
      have hc0 := (hcell 0 hn).1
      rw [e] at hc0
      have := p0'
      unfold rowV at this
      simp only [World.cell?, this] at hc0
      rcases off with _ | off
      · simp at hc0
      · simp at hc0
    have hEb : E.heap[b]? = w4.heap[b]? := by rw [hq]; exact aE hlt ((Below.heap_setCell w4 ⟨w.heap.size, 0, none⟩ _ b hbne).trans hq)
    exact ⟨(World.cell?_of_block (a := ⟨b, off + i * 2, none⟩) hEb).trans (hcell i hi).1, (World.cell?_of_block (a := ⟨b, off + i * 2 + 1, none⟩) hEb).trans (hcell i hi).2⟩
  have eE : ErrR E := HE0.out.below bE
  have HPE := Lib.hid (And.intro q0 (And.intro q1 (And.intro q2 (And.intro rE (And.intro mE (And.intro wE (And.intro eE (And.intro bE sE))))))))
  have hfew : WL.length ≤ 8192 := HBW.out.1
  clear q0 q1 q2 rE mE wE eE bE aE bS ho hb4 p0 p1 p2 p0' p1' p2' b3 s3 sE HSp HP
  go_wp2_with fail
  rw [← hEq]
  clear hEq y0 z0
  refine (declarations_at (w4.heap.size + 1) E).mono ?_
  rintro e w6 ⟨rfl, hD, hb6⟩
  obtain ⟨q0, q1, q2, rE, mE, wE, eE, bE, sE⟩ := HPE.out
  have hb6' : Below w4.heap.size E w6 := hb6.mono (by omega)
  have D0 : RD w4.heap.size (w4.heap.size + 1) src.length w6 AS.start WL ⟨A, k, c, none, 0, 0, none, 0, 0, none, 0, 0, none, 0, 0, w4.heap.size⟩ :=
    ⟨rE.below hb6 rE.lt, wE.below hb6', by show k ≤ 9000; omega, by omega, Nat.le_refl _, OwnS.nil _ _ _ _ _, OwnS.nil _ _ _ _ _, OwnS.nil _ _ _ _ _, OwnS.nil _ _ _ _ _, (fun b hb => by cases hb), mE.below hb6, by show 0 + WL.length ≤ 9000; omega, eE.below hb6, by omega, Formed.start, by rw [sE] at hD; exact hD, by show w4.heap.size + 1 + 2 ≠ w4.heap.size; omega⟩
  have HS0 := Lib.hid (And.intro D0 (And.intro (q0.below hb6 q0.lt) (And.intro (q1.below hb6 q1.lt) (And.intro (q2.below hb6 q2.lt) (bE.trans (hb6.mono bE.size))))))
  have hmE : E.heap.size + 1 = w4.heap.size + 1 + 2 := by omega
  rw [hmE]
  clear D0 hD hb6 hb6' q0 q1 q2 rE mE wE eE bE sE HPE hmE HE0
  go_wp2_with fail
  go_loopg [6, 7, 8] WL.length (fun gk _ _ _ wr => ∃ (s : AS) (ws : List Wd) (v : RVs), ws.length ≤ gk ∧ RD w4.heap.size (w4.heap.size + 1) src.length wr s ws v ∧ Hid (readW src.length s ws = readW src.length AS.start WL) ∧ rowV wr w.heap.size 67 #[.pointer (some ⟨w4.heap.size + 1, 0, none⟩)] ∧ rowV wr (w.heap.size + 1) 3 #[.int .i64 0] ∧ rowV wr (w.heap.size + 1 + 1) 28 #[.int .i64 0] ∧ Below w.heap.size w wr)
  case atStart => exact ⟨AS.start, WL, _, Nat.le_refl _, HS0.out.1, rfl, HS0.out.2.1, HS0.out.2.2.1, HS0.out.2.2.2.1, HS0.out.2.2.2.2⟩
  case round =>
    clear HS0
    obtain ⟨s, ws, v, hlen, D, HR, t0, t1, t2, hb⟩ := hrel
    have y0 : wr.cell? ⟨w.heap.size, 0, none⟩ = some (.pointer (some ⟨w4.heap.size + 1, 0, none⟩)) := cell_rowV t0 (j := 0) rfl
    rcases ws with _ | ⟨⟨x, z⟩, t⟩
    · have hk0 : v.k = 0 := by have := D.wm.1; simpa using this.symm
      have c0 : wr.cell? ⟨w4.heap.size + 1, 0, none⟩ = some (.slice v.A 0 v.c) := by
        have := cell_rowV D.row (j := 0) (v := .slice v.A v.k v.c) rfl
        rwa [hk0] at this
      have HR2 : Hid (RR = .ok s []) := by
        show _ = _
        rw [HRR.out, ← HR.out, readW_nil]
      have y1 : wr.cell? ⟨w.heap.size + 1, 0, none⟩ = some (.int .i64 0) := cell_rowV t1 (j := 0) rfl
      have y2 : wr.cell? ⟨w.heap.size + 1 + 1, 0, none⟩ = some (.int .i64 0) := cell_rowV t2 (j := 0) rfl
      have z0 := frozen_rowV' t0 0
      have z1 := frozen_rowV' t1 0
      have z2 := frozen_rowV' t2 0
      have hsame : ((wr.setCell ⟨w.heap.size, 0, none⟩ (.pointer (some ⟨w4.heap.size + 1, 0, none⟩))).setCell ⟨w.heap.size + 1, 0, none⟩ (.int .i64 0)).setCell ⟨w.heap.size + 1 + 1, 0, none⟩ (.int .i64 0) = wr := by
        rw [setCell_same t0, setCell_same t1, setCell_same t2]
      have HSM := Lib.hid hsame
      have HD := Lib.hid D
      have HB := Lib.hid hb
      clear hsame D hb HR hlen hk0
      go_wp2_with fail
      rw [HSM.out]
      refine leaves_cons (f := 40) (args := #[.pointer (some ⟨w.heap.size, 0, none⟩), .pointer (some ⟨w.heap.size + 1, 0, none⟩), .pointer (some ⟨w.heap.size + 1 + 1, 0, none⟩)]) (by simp) (by simp [go_sem]) ?_
      refine (catch_idle _ _ _ _).mono ?_
      rintro e u' w'' ⟨rfl, rfl, rfl⟩
      simp [Leaves, settle, results, Tryd.results28, go_sem, y0, y1, y2]
      rw [HR2.out]
      exact ⟨_, _, _, rfl, by omega, HD.out, HB.out⟩
    · cases gk with
      | zero => simp at hlen
      | succ g =>
        have hkl : v.k = t.length + 1 := by have := D.wm.1; simpa using this.symm
        have c0 : wr.cell? ⟨w4.heap.size + 1, 0, none⟩ = some (.slice v.A v.k v.c) := cell_rowV D.row rfl
        obtain ⟨kk, hkk⟩ : ∃ kk, kk = v.k := ⟨_, rfl⟩
        rw [← hkk] at c0 hkl
        clear hkk
        have k0 : decide ((0 : Int) < (kk : Int)) = true := by simp; omega
        have k0' : decide (0 < kk) = true := by simp; omega
        have HX : Hid (Calls Tryd.prog 43 #[.pointer (some ⟨w4.heap.size + 1, 0, none⟩)] wr fun e w' => ∃ A' k' c', e = .returned (.agg #[.string (strB x), .int .i64 (z : Int)]) ∧ k' ≤ 9000 ∧ RD w4.heap.size (w4.heap.size + 1) src.length w' s t (v.at_ A' k' c') ∧ wr.grownBy w' (some (w4.heap.size + 1))) := by
          show Calls _ _ _ _ _
          refine (next_any w4.heap.size (w4.heap.size + 1) v.A v.k v.c src.length _ _ _ _ _ _ ((x, z) :: t) wr D.row D.wm D.hk D.hB).mono ?_
          rintro e w' ⟨A', k', c', rfl, rfl, hr1, hw1, hg1⟩
          have hk9 : v.k - 1 ≤ 9000 := by have := D.hk; omega
          exact ⟨A', _, c', rfl, hk9, D.next' (ws' := t) (by simp) hk9 hr1 hw1 hg1, hg1⟩
        have HD := Lib.hid D
        have HB := Lib.hid hb
        clear D hb hkl
        go_wp2_with fail
        refine HX.out.mono ?_
        rintro e w1 ⟨A', k', c', rfl, hk1, D1, hg1⟩
        have r2 := rowV.new w1 97 #[.string (strB x), .int .i64 (z : Int)]
        have b12 : Below w1.heap.size w1 (w1.alloc (.cells #[.string (strB x), .int .i64 (z : Int)] 97)) := balloc (Below.refl _ _) _
        obtain ⟨w2, hw2⟩ : ∃ w2, w2 = w1.alloc (.cells #[.string (strB x), .int .i64 (z : Int)] 97) := ⟨_, rfl⟩
        rw [← hw2] at r2 b12
        have D2 := D1.below b12
        obtain ⟨a0, a1⟩ := two_cellsV r2
        have t01 := t0.below (HD.out.toBelow hg1) (by omega)
        have y01 : w1.cell? ⟨w.heap.size, 0, none⟩ = some (.pointer (some ⟨w4.heap.size + 1, 0, none⟩)) := cell_rowV t01 (j := 0) rfl
        have l01 := t01.lt
        clear t01
        have hBr2 : Below w4.heap.size wr w2 := (HD.out.toBelow hg1).trans (b12.mono D1.le)
        have t0 := t0.below hBr2 (by omega)
        have t1 := t1.below hBr2 (by omega)
        have t2 := t2.below hBr2 (by omega)
        have y0 : w2.cell? ⟨w.heap.size, 0, none⟩ = some (.pointer (some ⟨w4.heap.size + 1, 0, none⟩)) := cell_rowV t0 (j := 0) rfl
        have hwB : w.heap.size ≤ w4.heap.size := by omega
        have hB2 := Lib.hid (HB.out.trans (hBr2.mono hwB))
        clear HX hk1 D1 hg1 HD HB hBr2 b12 c0
        by_cases h1 : x = [98, 121, 116, 101, 115]
        · subst h1
          have hst : stepL src.length ([98, 121, 116, 101, 115], z) s t = arrayL src.length false s t := by
            unfold stepL
            dsimp only
            rw [if_pos rfl]
          have hlk := decl_hit1 D2.dcl
          rw [hw2] at hlk
          have H3 : Hid (Calls Tryd.prog 68 #[.pointer (some ⟨w4.heap.size + 1 + 1, 0, none⟩)] w2 (DoesL w4.heap.size (w4.heap.size + 1) src.length w2 (arrayL src.length false s t))) := decl1_any w4.heap.size (w4.heap.size + 1) src.length (w4.heap.size + 1 + 1) _ s t w2 D2 D2.dcl.2
          go_wp2_with fail
          rw [← hw2]
          cases hr : arrayL src.length false s t with
          | bad a er =>
            have HR2 : Hid (RR = .bad a er) := by
              show _ = _
              rw [HRR.out, ← HR.out, readW_bad (show stepL src.length ([98, 121, 116, 101, 115], z) s t = .bad a er from hst.trans hr)]
            rw [hr] at H3
            clear hr
            refine H3.out.mono ?_
            rintro e w3 ⟨rfl, hb3⟩
            have u0 := t0.below hb3 (by omega)
            have u1 := t1.below hb3 (by omega)
            have u2 := t2.below hb3 (by omega)
            have HBF := Lib.hid (hB2.out.trans (hb3.mono hwB))
            go_wp2_with fail
            refine leaves_cons (f := 40) (args := #[.pointer (some ⟨w.heap.size, 0, none⟩), .pointer (some ⟨w.heap.size + 1, 0, none⟩), .pointer (some ⟨w.heap.size + 1 + 1, 0, none⟩)]) (by simp) (by simp [go_sem]) ?_
            refine (catch_bad w.heap.size w.heap.size (w.heap.size + 1) (w.heap.size + 1 + 1) _ _ _ a er w3 u0 u1 u2 (by omega) (by omega) (by omega) (by omega) (by omega) (by omega)).mono ?_
            rintro e u' w5 ⟨rfl, rfl, k0, k1, k2, hb5⟩
            simp [Leaves, settle, results, Tryd.results28, go_sem, k0, k1, k2]
            rw [HR2.out]
            exact ⟨rfl, HBF.out.trans hb5⟩
          | ok s' t' =>
            have hst' : stepL src.length ([98, 121, 116, 101, 115], z) s t = .ok s' t' := hst.trans hr
            have HR2 : Hid (readW src.length s' t' = readW src.length AS.start WL) := by
              show _ = _
              rw [← HR.out, readW_ok hst']
            have hl2 : t'.length ≤ g := by
              have := (stepL_grew hst').1
              rw [this, List.length_drop]
              simp at hlen; omega
            rw [hr] at H3
            clear hr hst'
            refine H3.out.mono ?_
            rintro e w3 ⟨rfl, hb3, v3, D3⟩
            have u0 := t0.below hb3 (by omega)
            have u1 := t1.below hb3 (by omega)
            have u2 := t2.below hb3 (by omega)
            have HBF := Lib.hid (hB2.out.trans (hb3.mono hwB))
            have HD3 := Lib.hid D3
            clear D3 D2
            go_wp2_with fail
            go_roundg g
            case measure => omega
            case rel => exact ⟨s', t', v3, hl2, HD3.out, HR2.out, u0, u1, u2, HBF.out⟩
        by_cases h2 : x = [119, 111, 114, 100, 115]
        · subst h2
          have hst : stepL src.length ([119, 111, 114, 100, 115], z) s t = arrayL src.length true s t := by
            unfold stepL
            dsimp only
            rw [if_neg (by decide), if_pos rfl]
          have hlk := decl_hit2 D2.dcl
          rw [hw2] at hlk
          have H3 : Hid (Calls Tryd.prog 70 #[.pointer (some ⟨w4.heap.size + 1 + 1, 0, none⟩)] w2 (DoesL w4.heap.size (w4.heap.size + 1) src.length w2 (arrayL src.length true s t))) := decl2_any w4.heap.size (w4.heap.size + 1) src.length (w4.heap.size + 1 + 1) _ s t w2 D2 D2.dcl.2
          go_wp2_with fail
          rw [← hw2]
          cases hr : arrayL src.length true s t with
          | bad a er =>
            have HR2 : Hid (RR = .bad a er) := by
              show _ = _
              rw [HRR.out, ← HR.out, readW_bad (show stepL src.length ([119, 111, 114, 100, 115], z) s t = .bad a er from hst.trans hr)]
            rw [hr] at H3
            clear hr
            refine H3.out.mono ?_
            rintro e w3 ⟨rfl, hb3⟩
            have u0 := t0.below hb3 (by omega)
            have u1 := t1.below hb3 (by omega)
            have u2 := t2.below hb3 (by omega)
            have HBF := Lib.hid (hB2.out.trans (hb3.mono hwB))
            go_wp2_with fail
            refine leaves_cons (f := 40) (args := #[.pointer (some ⟨w.heap.size, 0, none⟩), .pointer (some ⟨w.heap.size + 1, 0, none⟩), .pointer (some ⟨w.heap.size + 1 + 1, 0, none⟩)]) (by simp) (by simp [go_sem]) ?_
            refine (catch_bad w.heap.size w.heap.size (w.heap.size + 1) (w.heap.size + 1 + 1) _ _ _ a er w3 u0 u1 u2 (by omega) (by omega) (by omega) (by omega) (by omega) (by omega)).mono ?_
            rintro e u' w5 ⟨rfl, rfl, k0, k1, k2, hb5⟩
            simp [Leaves, settle, results, Tryd.results28, go_sem, k0, k1, k2]
            rw [HR2.out]
            exact ⟨rfl, HBF.out.trans hb5⟩
          | ok s' t' =>
            have hst' : stepL src.length ([119, 111, 114, 100, 115], z) s t = .ok s' t' := hst.trans hr
            have HR2 : Hid (readW src.length s' t' = readW src.length AS.start WL) := by
              show _ = _
              rw [← HR.out, readW_ok hst']
            have hl2 : t'.length ≤ g := by
              have := (stepL_grew hst').1
              rw [this, List.length_drop]
              simp at hlen; omega
            rw [hr] at H3
            clear hr hst'
            refine H3.out.mono ?_
            rintro e w3 ⟨rfl, hb3, v3, D3⟩
            have u0 := t0.below hb3 (by omega)
            have u1 := t1.below hb3 (by omega)
            have u2 := t2.below hb3 (by omega)
            have HBF := Lib.hid (hB2.out.trans (hb3.mono hwB))
            have HD3 := Lib.hid D3
            clear D3 D2
            go_wp2_with fail
            go_roundg g
            case measure => omega
            case rel => exact ⟨s', t', v3, hl2, HD3.out, HR2.out, u0, u1, u2, HBF.out⟩
        by_cases h3 : x = [108, 111, 99, 97, 108]
        · subst h3
          have hst : stepL src.length ([108, 111, 99, 97, 108], z) s t = localL src.length s t := by
            unfold stepL
            dsimp only
            rw [if_neg (by decide), if_neg (by decide), if_pos rfl]
          have hlk := decl_hit3 D2.dcl
          rw [hw2] at hlk
          have H3 : Hid (Calls Tryd.prog 71 #[.pointer (some ⟨w4.heap.size + 1, 0, none⟩)] w2 (DoesL w4.heap.size (w4.heap.size + 1) src.length w2 (localL src.length s t))) := local_any w4.heap.size (w4.heap.size + 1) src.length _ s t w2 D2
          go_wp2_with fail
          rw [← hw2]
          cases hr : localL src.length s t with
          | bad a er =>
            have HR2 : Hid (RR = .bad a er) := by
              show _ = _
              rw [HRR.out, ← HR.out, readW_bad (show stepL src.length ([108, 111, 99, 97, 108], z) s t = .bad a er from hst.trans hr)]
            rw [hr] at H3
            clear hr
            refine H3.out.mono ?_
            rintro e w3 ⟨rfl, hb3⟩
            have u0 := t0.below hb3 (by omega)
            have u1 := t1.below hb3 (by omega)
            have u2 := t2.below hb3 (by omega)
            have HBF := Lib.hid (hB2.out.trans (hb3.mono hwB))
            go_wp2_with fail
            refine leaves_cons (f := 40) (args := #[.pointer (some ⟨w.heap.size, 0, none⟩), .pointer (some ⟨w.heap.size + 1, 0, none⟩), .pointer (some ⟨w.heap.size + 1 + 1, 0, none⟩)]) (by simp) (by simp [go_sem]) ?_
            refine (catch_bad w.heap.size w.heap.size (w.heap.size + 1) (w.heap.size + 1 + 1) _ _ _ a er w3 u0 u1 u2 (by omega) (by omega) (by omega) (by omega) (by omega) (by omega)).mono ?_
            rintro e u' w5 ⟨rfl, rfl, k0, k1, k2, hb5⟩
            simp [Leaves, settle, results, Tryd.results28, go_sem, k0, k1, k2]
            rw [HR2.out]
            exact ⟨rfl, HBF.out.trans hb5⟩
          | ok s' t' =>
            have hst' : stepL src.length ([108, 111, 99, 97, 108], z) s t = .ok s' t' := hst.trans hr
            have HR2 : Hid (readW src.length s' t' = readW src.length AS.start WL) := by
              show _ = _
              rw [← HR.out, readW_ok hst']
            have hl2 : t'.length ≤ g := by
              have := (stepL_grew hst').1
              rw [this, List.length_drop]
              simp at hlen; omega
            rw [hr] at H3
            clear hr hst'
            refine H3.out.mono ?_
            rintro e w3 ⟨rfl, hb3, v3, D3⟩
            have u0 := t0.below hb3 (by omega)
            have u1 := t1.below hb3 (by omega)
            have u2 := t2.below hb3 (by omega)
            have HBF := Lib.hid (hB2.out.trans (hb3.mono hwB))
            have HD3 := Lib.hid D3
            clear D3 D2
            go_wp2_with fail
            go_roundg g
            case measure => omega
            case rel => exact ⟨s', t', v3, hl2, HD3.out, HR2.out, u0, u1, u2, HBF.out⟩
        by_cases h4 : x = [99, 111, 110, 115, 116]
        · subst h4
          have hst : stepL src.length ([99, 111, 110, 115, 116], z) s t = constL src.length s t := by
            unfold stepL
            dsimp only
            rw [if_neg (by decide), if_neg (by decide), if_neg (by decide), if_pos rfl]
          have hlk := decl_hit4 D2.dcl
          rw [hw2] at hlk
          have H3 : Hid (Calls Tryd.prog 72 #[.pointer (some ⟨w4.heap.size + 1, 0, none⟩)] w2 (DoesL w4.heap.size (w4.heap.size + 1) src.length w2 (constL src.length s t))) := constant_any w4.heap.size (w4.heap.size + 1) src.length _ s t w2 D2
          go_wp2_with fail
          rw [← hw2]
          cases hr : constL src.length s t with
          | bad a er =>
            have HR2 : Hid (RR = .bad a er) := by
              show _ = _
              rw [HRR.out, ← HR.out, readW_bad (show stepL src.length ([99, 111, 110, 115, 116], z) s t = .bad a er from hst.trans hr)]
            rw [hr] at H3
            clear hr
            refine H3.out.mono ?_
            rintro e w3 ⟨rfl, hb3⟩
            have u0 := t0.below hb3 (by omega)
            have u1 := t1.below hb3 (by omega)
            have u2 := t2.below hb3 (by omega)
            have HBF := Lib.hid (hB2.out.trans (hb3.mono hwB))
            go_wp2_with fail
            refine leaves_cons (f := 40) (args := #[.pointer (some ⟨w.heap.size, 0, none⟩), .pointer (some ⟨w.heap.size + 1, 0, none⟩), .pointer (some ⟨w.heap.size + 1 + 1, 0, none⟩)]) (by simp) (by simp [go_sem]) ?_
            refine (catch_bad w.heap.size w.heap.size (w.heap.size + 1) (w.heap.size + 1 + 1) _ _ _ a er w3 u0 u1 u2 (by omega) (by omega) (by omega) (by omega) (by omega) (by omega)).mono ?_
            rintro e u' w5 ⟨rfl, rfl, k0, k1, k2, hb5⟩
            simp [Leaves, settle, results, Tryd.results28, go_sem, k0, k1, k2]
            rw [HR2.out]
            exact ⟨rfl, HBF.out.trans hb5⟩
          | ok s' t' =>
            have hst' : stepL src.length ([99, 111, 110, 115, 116], z) s t = .ok s' t' := hst.trans hr
            have HR2 : Hid (readW src.length s' t' = readW src.length AS.start WL) := by
              show _ = _
              rw [← HR.out, readW_ok hst']
            have hl2 : t'.length ≤ g := by
              have := (stepL_grew hst').1
              rw [this, List.length_drop]
              simp at hlen; omega
            rw [hr] at H3
            clear hr hst'
            refine H3.out.mono ?_
            rintro e w3 ⟨rfl, hb3, v3, D3⟩
            have u0 := t0.below hb3 (by omega)
            have u1 := t1.below hb3 (by omega)
            have u2 := t2.below hb3 (by omega)
            have HBF := Lib.hid (hB2.out.trans (hb3.mono hwB))
            have HD3 := Lib.hid D3
            clear D3 D2
            go_wp2_with fail
            go_roundg g
            case measure => omega
            case rel => exact ⟨s', t', v3, hl2, HD3.out, HR2.out, u0, u1, u2, HBF.out⟩
        have hst : stepL src.length (x, z) s t = instrL src.length (x, z) s t := by
          unfold stepL
          rw [if_neg h1, if_neg h2, if_neg h3, if_neg h4]
        have hlk := decl_no D2.dcl h1 h2 h3 h4
        rw [hw2] at hlk
        have H3 : Hid (Calls Tryd.prog 44 #[.pointer (some ⟨w4.heap.size + 1, 0, none⟩), .agg #[.string (strB x), .int .i64 (z : Int)]] w2 (DoesL w4.heap.size (w4.heap.size + 1) src.length w2 (instrL src.length (x, z) s t))) := instr_any w4.heap.size (w4.heap.size + 1) src.length _ s t w2 x z D2
        go_wp2_with fail
        rw [← hw2]
        cases hr : instrL src.length (x, z) s t with
        | bad a er =>
          have HR2 : Hid (RR = .bad a er) := by
            show _ = _
            rw [HRR.out, ← HR.out, readW_bad (show stepL src.length (x, z) s t = .bad a er from hst.trans hr)]
          rw [hr] at H3
          clear hr
          refine H3.out.mono ?_
          rintro e w3 ⟨rfl, hb3⟩
          have u0 := t0.below hb3 (by omega)
          have u1 := t1.below hb3 (by omega)
          have u2 := t2.below hb3 (by omega)
          have HBF := Lib.hid (hB2.out.trans (hb3.mono hwB))
          go_wp2_with fail
          refine leaves_cons (f := 40) (args := #[.pointer (some ⟨w.heap.size, 0, none⟩), .pointer (some ⟨w.heap.size + 1, 0, none⟩), .pointer (some ⟨w.heap.size + 1 + 1, 0, none⟩)]) (by simp) (by simp [go_sem]) ?_
          refine (catch_bad w.heap.size w.heap.size (w.heap.size + 1) (w.heap.size + 1 + 1) _ _ _ a er w3 u0 u1 u2 (by omega) (by omega) (by omega) (by omega) (by omega) (by omega)).mono ?_
          rintro e u' w5 ⟨rfl, rfl, k0, k1, k2, hb5⟩
          simp [Leaves, settle, results, Tryd.results28, go_sem, k0, k1, k2]
          rw [HR2.out]
          exact ⟨rfl, HBF.out.trans hb5⟩
        | ok s' t' =>
          have hst' : stepL src.length (x, z) s t = .ok s' t' := hst.trans hr
          have HR2 : Hid (readW src.length s' t' = readW src.length AS.start WL) := by
            show _ = _
            rw [← HR.out, readW_ok hst']
          have hl2 : t'.length ≤ g := by
            have := (stepL_grew hst').1
            rw [this, List.length_drop]
            simp at hlen; omega
          rw [hr] at H3
          clear hr hst'
          refine H3.out.mono ?_
          rintro e w3 ⟨rfl, hb3, v3, D3⟩
          have u0 := t0.below hb3 (by omega)
          have u1 := t1.below hb3 (by omega)
          have u2 := t2.below hb3 (by omega)
          have HBF := Lib.hid (hB2.out.trans (hb3.mono hwB))
          have HD3 := Lib.hid D3
          clear D3 D2
          go_wp2_with fail
          go_roundg g
          case measure => omega
          case rel => exact ⟨s', t', v3, hl2, HD3.out, HR2.out, u0, u1, u2, HBF.out⟩
theorem read_any (src : List UInt8) (w : World) (hs : src.length ≤ 100000000) (hE : ErrR w) : Calls Tryd.prog 28 #[.string (strB src)] w (ReadP src w) := by
  rcases Nat.lt_or_ge 8192 src.length with h | h
  · exact read_long src w h hs
  · exact read_main src w h hE
end Go.Proofs.YtlbhggjkcfcobaaDoor
