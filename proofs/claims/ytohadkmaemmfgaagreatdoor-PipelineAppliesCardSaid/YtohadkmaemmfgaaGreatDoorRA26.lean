/- Yh. -/
import Derived.Test.YtohadkmaemmfgaaGreatDoorRA07
import Derived.BigRegion
set_option maxRecDepth 100000
set_option maxHeartbeats 4000000
namespace Go.Proofs.YtohadkmaemmfgaaGreatDoor
open Go.RowKit Go.Proofs
set_option linter.unusedVariables false
set_option linter.unusedSimpArgs false
def ParsePost (s : List UInt8) (w : World) (e : Ending) (w' : World) : Prop := ∃ A n c, e = .returned (.tuple #[.slice A n c, .int .i64 (parseP s).2.1, .int .i64 (parseP s).2.2]) ∧ OwnS encSt 2 w' w.heap.size 50 A n c (parseP s).1 ∧ Stgs w' A n c (parseP s).1 ∧ Below w.heap.size w w'
theorem ParsePost.bad {s : List UInt8} {w w' : World} {i e : Int} (h : parseP s = ([], i, e)) (hb : Below w.heap.size w w') : ParsePost s w (.returned (.tuple #[.slice none 0 0, .int .i64 i, .int .i64 e])) w' :=
  ⟨none, 0, 0, by rw [h], by rw [h]; exact OwnS.nil _ _ _ _ _, by rw [h]; exact (OwnS.nil encSt 2 w' 0 _).toStgs (by simp), hb⟩
theorem run_cutG {t e : TypeId} {A : Option Addr} {n c : Nat} {P : Program} (ht : P.underlying t = some (.slice (P.elem t))) (he : P.elem t = e) (hs : ∀ W : World, (sizeOf e).run P W = .ok 2 W) (l : Int) (h0 : 0 ≤ l) (hl : l ≤ n) (W : World) :
    (Instr.slice t (.slice A n c) (some (.int .i64 l)) none none).run P W = .ok (.slice (if c = l.toNat then A else A.map (·.add (l.toNat * 2))) (n - l.toNat) (c - l.toNat)) W := by
  subst he
  rw [run_slice_l W t A n c ht .i64 l h0 hl, hs W]
  simp only [Result.andThen, sliced]
theorem tW : Tryz.prog.underlying 58 = some (.slice (Tryz.prog.elem 58)) := by kernel_rfl
theorem eW : Tryz.prog.elem 58 = 61 := by kernel_rfl
theorem sW (W : World) : (sizeOf 61).run Tryz.prog W = .ok 2 W := by kernel_rfl
theorem run_cut1 {g o n c : Nat} (h1 : 1 ≤ n) (hc : n ≤ c) : ∃ A', (∀ W : World, (Instr.slice 58 (.slice (some ⟨g, o, none⟩) n c) (some (.int .i64 1)) none none).run Tryz.prog W = .ok (.slice A' (n - 1) (c - 1)) W) ∧ (0 < n - 1 → A' = some ⟨g, o + 2, none⟩) := by
  refine ⟨if c = (1 : Int).toNat then some ⟨g, o, none⟩ else (some (⟨g, o, none⟩ : Addr)).map (·.add ((1 : Int).toNat * 2)), fun W => ?_, ?_⟩
  · exact run_cutG tW eW sW 1 (by decide) (by omega) W
  · intro h
    rw [if_neg (by simp; omega)]
    simp [Addr.add]
theorem parse_errW {s : List UInt8} {W : List (List UInt8 × Nat)} {i : Nat} {e : Int} (hW : W = wordsP s) (hl : ¬ 8192 < s.length) (h : readP s.length W = .error (i, e)) : parseP s = ([], (i : Int), e) := parse_err hl (hW ▸ h)
def slLen : Value → Nat
  | .slice _ n _ => n
  | _ => 0
def PSt (w3 : World) (N : Nat) (W : List (List UInt8 × Nat)) (j : Nat) (acc : Acc) (A1 : Option Addr) (c1 : Nat) (A2 : Option Addr) (c2 : Nat) (wr : World) : Prop :=
  Red N W j acc ∧ AccOk acc ∧ OwnS encSt 2 wr w3.heap.size 50 A1 acc.length c1 (acc.map (·.1)) ∧ OwnS encZ 1 wr w3.heap.size 3 A2 acc.length c2 (acc.map fun x => (x.2 : Int)) ∧ Below w3.heap.size w3 wr
theorem PSt.below {w3 wr wx : World} {N : Nat} {W : List (List UInt8 × Nat)} {j : Nat} {acc : Acc} {A1 A2 : Option Addr} {c1 c2 : Nat} (h : PSt w3 N W j acc A1 c1 A2 c2 wr) (hb : Below wr.heap.size wr wx) : PSt w3 N W j acc A1 c1 A2 c2 wx :=
  ⟨h.1, h.2.1, h.2.2.1.below hb, h.2.2.2.1.below hb, h.2.2.2.2.trans (hb.mono h.2.2.2.2.size)⟩
theorem PSt.drewN {w3 wr : World} {N : Nat} {W : List (List UInt8 × Nat)} {j : Nat} {acc : Acc} {A1 A2 : Option Addr} {c1 c2 : Nat} (h : PSt w3 N W j acc A1 c1 A2 c2 wr) (q : Nat) : PSt w3 N W j acc A1 c1 A2 c2 (wr.drewN q) := h.below (bdrew (Below.refl _ _) q)
theorem PSt.next {w3 wy : World} {N : Nat} {W : List (List UInt8 × Nat)} {j' : Nat} {acc : Acc} {A7 A10 : Option Addr} {c7 c10 : Nat} {kd a : Int} {ax : Nat} (hr : Red N W j' (acc ++ [((kd, a), ax)])) (hok : AccOk acc) (hk : 0 ≤ kd ∧ kd < 10) (ha : 0 ≤ a ∧ a ≤ 9007199254740991)
    (h1 : OwnS encSt 2 wy w3.heap.size 50 A7 (acc.length + 1) c7 (acc.map (·.1) ++ [(kd, a)])) (h2 : OwnS encZ 1 wy w3.heap.size 3 A10 (acc.length + 1) c10 (acc.map (fun x => (x.2 : Int)) ++ [(ax : Int)])) (hb : Below w3.heap.size w3 wy) :
    PSt w3 N W j' (acc ++ [((kd, a), ax)]) A7 c7 A10 c10 wy := by
  refine ⟨hr, hok.push hk ha, ?_, ?_, hb⟩
  · rw [List.map_append, List.length_append]; exact h1
  · rw [List.map_append, List.length_append]; exact h2
theorem after_set {w3 w5 : World} {N : Nat} {W : List (List UInt8 × Nat)} {j : Nat} {acc : Acc} {A1 A2 : Option Addr} {c1 c2 g g9 : Nat} {cs9 : Array Value} {a b : Value} {k : Int} (h1 : rowV w5 g 50 #[a, b]) (h2 : rowV w5 g9 61 cs9) (h3 : PSt w3 N W j acc A1 c1 A2 c2 w5) (hg : w3.heap.size ≤ g)
    (hne1 : ∀ b', (Value.slice A1 acc.length c1).ownBlock = some b' → b' ≠ g) :
    rowV (w5.setCell ⟨g, 1, none⟩ (.int .i64 k)).drew g 50 #[a, .int .i64 k] ∧ rowV (w5.setCell ⟨g, 1, none⟩ (.int .i64 k)).drew g9 61 cs9 ∧ PSt w3 N W j acc A1 c1 A2 c2 (w5.setCell ⟨g, 1, none⟩ (.int .i64 k)).drew := by
  have hne : g9 ≠ g := by
    intro e
    subst e
    unfold rowV at h1 h2
    rw [h1] at h2
    injection h2 with h2
    injection h2 with _ h2
    exact absurd h2 (by decide)
  have hgb : w5.grownBy (w5.setCell ⟨g, 1, none⟩ (.int .i64 k)) (some g) := ⟨rfl, rfl, rfl, by simp [World.setCell], fun i hi hne => Below.heap_setCell w5 ⟨g, 1, none⟩ _ i (fun e => hne (by rw [e]))⟩
  have hgd : w5.grownBy (w5.setCell ⟨g, 1, none⟩ (.int .i64 k)).drew (some g) := grownBy.drewN' hgb 1
  refine ⟨h1.set 1 _, h2.grown hgd (fun e => hne (by injection e)), h3.1, h3.2.1, ?_, ?_, ?_⟩
  · exact (h3.2.2.1.grown hgd (fun b hb e => hne1 b hb (by injection e)))
  · exact (h3.2.2.2.1.grown hgd (h3.2.2.2.1.ne_row h1 (by decide)))
  · exact bdrew1 (h3.2.2.2.2.setCell (p := ⟨g, 1, none⟩) hg _)
theorem push_out {w3 X0 X Y : World} {N : Nat} {W : List (List UInt8 × Nat)} {j : Nat} {acc : Acc} {A1 A2 A7 : Option Addr} {c1 c2 c7 g9 : Nat} {cs9 : Array Value} {st : Stg} (hP : PSt w3 N W j acc A1 c1 A2 c2 X0) (hr : rowV X0 g9 61 cs9) (hb : Below X0.heap.size X0 X)
    (ho : OwnS encSt 2 Y w3.heap.size 50 A7 (acc.length + 1) c7 (acc.map (·.1) ++ [st])) (hg : X.grownBy Y (Value.slice A1 acc.length c1).ownBlock) :
    OwnS encZ 1 Y w3.heap.size 3 A2 acc.length c2 (acc.map fun x => (x.2 : Int)) ∧ rowV Y g9 61 cs9 ∧ Below w3.heap.size w3 Y ∧ (∀ g cs, rowV X g 3 cs → rowV Y g 3 cs) ∧ OwnS encSt 2 Y w3.heap.size 50 A7 (acc.length + 1) c7 (acc.map (·.1) ++ [st]) := by
  obtain ⟨_, _, hS, hZ, hB⟩ := hP.below hb
  have r := hr.below hb hr.lt
  refine ⟨hZ.grown hg (OwnS.ne_own hZ hS (by decide)), r.grown hg (fun e => (hS.ne_row r (by decide)) _ e.symm rfl), hB.trans ((Below.refl _ X).grown hg hB.size (fun k hk => (World.ownsRow.lt hS k hk).1)), fun g cs hr => hr.grown hg (fun e => (hS.ne_row hr (by decide)) _ e.symm rfl), ho⟩
theorem push_places {w3 Z X Y : World} {A2 A7 : Option Addr} {n n7 c2 c7 : Nat} {l7 : List Stg} {l2 : List Int} (hS : OwnS encSt 2 Z w3.heap.size 50 A7 n7 c7 l7) (hZ : OwnS encZ 1 Z w3.heap.size 3 A2 n c2 l2) (hB : Below w3.heap.size w3 Z) (hb : Below Z.heap.size Z X)
    (hg : X.grownBy Y (Value.slice A2 n c2).ownBlock) : OwnS encSt 2 Y w3.heap.size 50 A7 n7 c7 l7 ∧ Below w3.heap.size w3 Y := by
  have hS' := hS.below hb
  have hZ' := hZ.below hb
  have hB' := hB.trans (hb.mono hB.size)
  exact ⟨hS'.grown hg (OwnS.ne_own hS' hZ' (by decide)), hB'.trans ((Below.refl _ X).grown hg hB'.size (fun k hk => (World.ownsRow.lt hZ' k hk).1))⟩
theorem parse_any (s : List UInt8) (w : World) (hs : s.length < 9223372036854775808) (hT : TabY w) : Calls Tryz.prog 12 #[.string (strB s)] w (ParsePost s w) := by
  have z1 := zS
  have hsz : (strB s).size = s.length := rfl
  by_cases hL : 8192 < s.length
  · have d8 : decide ((8192 : Int) < (s.length : Int)) = true := by simp; omega
    have d8' : decide (8192 < s.length) = true := by simp; omega
    have HP : Hid (parseP s = ([], 0, 5)) := by show _ = _; unfold parseP; rw [if_pos hL]
    go_enter Tryz.func12, Tryz.ntmps12
    go_wp2_with fail
    go_ret3
    exact ParsePost.bad HP.out (Below.refl _ _)
  have d8 : decide ((8192 : Int) < (s.length : Int)) = false := by simp; omega
  have d8' : decide (8192 < s.length) = false := by simp; omega
  have HT := Lib.hid hT
  clear hT
  go_enter Tryz.func12, Tryz.ntmps12
  go_wp2_with fail
  refine (shapes_any w).mono ?_
  rintro e w1 ⟨⟨f, hf, rfl⟩, hb1⟩
  obtain ⟨w2, -, hw2, hb2, s2, r2⟩ := laidSh w1 f
  have Hr := Lib.hid (rowV.new w1 46 zeroS)
  have Hf := Lib.hid (allSh hf)
  have HF := Lib.hid hf
  have hb02 := hb1.trans (hb2.mono hb1.size)
  have HS := Lib.hid (split_any s w2 (by omega) (HT.out.below hb02))
  have HB2 := Lib.hid hb02
  have HR2 := Lib.hid r2
  clear hb1 hb2 s2 r2 hf hb02
  go_wp2_with (refine wpList_store_row rfl 46 (.tmp 5) (.tmp 20) rfl _ _ rfl rfl _ _ Hr.out (iSh f) (zS_size f) Hf.out ?_)
  refine HS.out.mono ?_
  rintro e w3 ⟨Aw, cw, rfl, how, hb3⟩
  clear z1 Hr Hf HS hw2
  have HR3 := Lib.hid (HR2.out.below hb3 HR2.out.lt)
  have HB3 := Lib.hid (HB2.out.trans (hb3.mono HB2.out.size))
  have HT3 := Lib.hid (HT.out.below HB3.out)
  have HW := Lib.hid how
  have hbig := words_length s
  have hcapw := how.cap
  have HWA := Lib.hid (fun x hx => (words_at (s := s) (x := x) hx))
  obtain ⟨W, hW⟩ : ∃ W, W = wordsP s := ⟨_, rfl⟩
  rw [← hW] at HW hbig hcapw HWA ⊢
  have HWs := Lib.hid hW
  obtain ⟨m, hm⟩ : ∃ m, m = W.length := ⟨_, rfl⟩
  rw [← hm] at HW hbig hcapw ⊢
  have Hm := Lib.hid hm
  clear hb3 how HR2 HB2 hW hm HT
  go_wp2_with fail
  go_loopw [6, 7, 8, 9, 10, 11, 12, 13] (fun o p l _ _ _ _ _ wr => ∃ (j : Nat) (acc : Acc) (A1 A2 Al : Option Addr) (c1 c2 : Nat), j ≤ m ∧ acc.length ≤ j ∧ o = .slice A1 acc.length c1 ∧ p = .slice A2 acc.length c2 ∧ l = .slice Al (m - j) (cw - j) ∧ (0 < m - j → Al = match Aw with | some a => some (a.add (j * 2)) | none => none) ∧ Hid (PSt w3 s.length W j acc A1 c1 A2 c2 wr)) (fun _ _ l _ _ _ _ _ _ => slLen l)
  case atStart => exact ⟨0, [], none, none, Aw, 0, 0, Nat.zero_le _, Nat.zero_le _, rfl, rfl, rfl, fun _ => (by cases Aw <;> simp [Addr.add]), Lib.hid ⟨Red.start _ _, (fun x hx => by cases hx), OwnS.nil _ _ _ _ _, OwnS.nil _ _ _ _ _, Below.refl _ _⟩⟩
  case round =>
    obtain ⟨j, acc, A1, A2, Al, c1, c2, hj, hal, rfl, rfl, rfl, hAl, HP⟩ := hrel
    by_cases hlt : j < m
    · obtain ⟨gw, rfl, hgw1, hgw2, hgc⟩ := HW.out.get (fun _ => rfl) (by decide) ([], 0) (by omega)
      have hAl2 : Al = some ⟨gw, j * 2, none⟩ := by rw [hAl (by omega)]; simp only [addr_add, Nat.zero_add]
      subst hAl2
      clear hAl
      have d0 : decide ((0 : Int) < ((m - j : Nat) : Int)) = true := by simp; omega
      have d0' : decide (0 < m - j) = true := by simp; omega
      have y0 : wr.cell? ⟨gw, j * 2, none⟩ = some (.string (strB (gW W j).1)) := (HP.out.2.2.2.2.cell (p := ⟨gw, j * 2, none⟩) hgw2).trans (by have := hgc j 0 _ hlt rfl; rw [Nat.add_zero] at this; exact this)
      have y1 : wr.cell? ⟨gw, j * 2 + 1, none⟩ = some (.int .i64 (gW W j).2) := (HP.out.2.2.2.2.cell (p := ⟨gw, j * 2 + 1, none⟩) hgw2).trans (hgc j 1 _ hlt rfl)
      obtain ⟨A8, r8, h8⟩ := run_cut1 (g := gw) (o := j * 2) (n := m - j) (c := cw - j) (by omega) (by omega)
      have hjW : j < W.length := by have := Hm.out; omega
      have HXA := Lib.hid (HWA.out (gW W j) (gW_mem hjW))
      obtain ⟨⟨x, ax⟩, hx⟩ : ∃ x, x = gW W j := ⟨_, rfl⟩
      rw [← hx] at y0 y1 HXA
      have Hx := Lib.hid hx
      clear hx hgc
      dsimp only at y0 y1
      have rA := (HR3.out.below HP.out.2.2.2.2 HR3.out.lt).below (balloc (Below.refl _ wr) (.cells #[.string (strB x), .int .i64 (ax : Int)] 61)) (HR3.out.below HP.out.2.2.2.2 HR3.out.lt).lt
      have rW := rowV.new wr 61 #[.string (strB x), .int .i64 (ax : Int)]
      have HI := Lib.hid (indexShape_any x f HF.out w1.heap.size wr.heap.size (wr.alloc (.cells #[.string (strB x), .int .i64 (ax : Int)] 61)) rA (two_cellsV rW).1)
      have HrA := Lib.hid rA
      have HrW := Lib.hid rW
      clear rA rW
      go_wp2_with fail
      refine HI.out.mono ?_
      rintro e w4 ⟨rfl, hb4⟩
      have rW4 := HrW.out.below hb4 HrW.out.lt
      have hlt4 := rW4.lt
      obtain ⟨c4, c5⟩ := two_cellsV rW4
      have HP4 := Lib.hid (And.intro (rW4) (PSt.below HP.out ((balloc (Below.refl _ wr) (.cells #[.string (strB x), .int .i64 (ax : Int)] 61)).trans (hb4.mono (balloc (Below.refl _ wr) (.cells #[.string (strB x), .int .i64 (ax : Int)] 61)).size))))
      clear rW4 hb4 HI HrA HrW
      have hkr := kind_range x
      have Hk : Hid (kindP x = kindP (gW W j).1) := by show _ = _; rw [← Hx.out]
      obtain ⟨kd, hkd⟩ : ∃ kd, kd = kindP x := ⟨_, rfl⟩
      rw [← hkd] at hkr Hk ⊢
      clear hkd
      by_cases hneg : kd < 0
      · have d1 : decide (kd < 0) = true := by simpa using hneg
        have HE := Lib.hid (parse_errW HWs.out hL ((HP.out.1.bad hjW (by rw [← Hk.out]; exact hneg))))
        rw [show (gW W j).2 = ax by rw [← Hx.out]] at HE
        have HBL := Lib.hid (HB3.out.trans (HP4.out.2.2.2.2.2.mono HB3.out.size))
        clear hneg
        go_wp2_with fail
        go_quiet (fail)
        obtain ⟨nqa, hnqa⟩ : ∃ x, x = nq := ⟨_, rfl⟩
        rw [← hnqa]
        clear hnqa
        go_wp2_with fail
        go_ret3
        exact ParsePost.bad HE.out (bdrew HBL.out _)
      have d1 : decide (kd < 0) = false := by simpa using hneg
      have HBL := Lib.hid (HB3.out.trans (HP4.out.2.2.2.2.2.mono HB3.out.size))
      have H5 := Lib.hid (And.intro (rowV.new w4 50 #[.int .i64 kd, .int .i64 0]) (And.intro (HP4.out.1.below (balloc (Below.refl _ _) (.cells #[.int .i64 kd, .int .i64 0] 50)) HP4.out.1.lt) (PSt.below HP4.out.2 (balloc (Below.refl _ _) (.cells #[.int .i64 kd, .int .i64 0] 50)))))
      by_cases h0 : kd = 0
      · have d2 : (kd == 0) = true := by simpa using h0
        have hk0 : Hid (kindP (gW W j).1 = 0) := by show _ = _; rw [← Hk.out]; exact h0
        by_cases hl : j + 1 < m
        · have d3 : (((m - j - 1 : Nat) : Int) == 0) = false := by simp; omega
          have d3' : ((m - j - 1 : Nat) == 0) = false := by simp; omega
          have d4 : decide ((0 : Int) < ((m - j - 1 : Nat) : Int)) = true := by simp; omega
          have d4' : decide (0 < m - j - 1) = true := by simp; omega
          obtain rfl := h8 (by omega)
          obtain ⟨gw', hgw', -, -, hgc⟩ := HW.out.get (fun _ => rfl) (by decide) ([], 0) (by omega)
          obtain rfl : gw = gw' := by injection hgw' with e; injection e
          have y2 : w4.cell? ⟨gw, j * 2 + 2, none⟩ = some (.string (strB (gW W (j + 1)).1)) := (HP4.out.2.2.2.2.2.cell (p := ⟨gw, j * 2 + 2, none⟩) hgw2).trans (by have := hgc (j + 1) 0 _ hl rfl; rw [Nat.add_zero, Nat.add_mul] at this; exact this)
          have y3 : w4.cell? ⟨gw, j * 2 + 2 + 1, none⟩ = some (.int .i64 (gW W (j + 1)).2) := (HP4.out.2.2.2.2.2.cell (p := ⟨gw, j * 2 + 2 + 1, none⟩) hgw2).trans (by have := hgc (j + 1) 1 _ hl rfl; rw [Nat.add_mul] at this; exact this)
          have hj1W : j + 1 < W.length := by have := Hm.out; omega
          have hXB := HWA.out (gW W (j + 1)) (gW_mem hj1W)
          obtain ⟨⟨v, av⟩, hv⟩ : ∃ x, x = gW W (j + 1) := ⟨_, rfl⟩
          rw [← hv] at y2 y3 hXB
          have Hv := Lib.hid hv
          clear hv hgc hgw'
          dsimp only at y2 y3 hXB
          have hgl : gw < w4.heap.size := Nat.lt_of_lt_of_le hgw2 HP4.out.2.2.2.2.2.size
          obtain ⟨A9, r9, h9⟩ := run_cut1 (g := gw) (o := j * 2 + 2) (n := m - j - 1) (c := cw - j - 1) (by omega) (by omega)
          have HNm := Lib.hid (number_any v (w4.alloc (.cells #[.int .i64 kd, .int .i64 0] 50)) (by omega) (HT3.out.below H5.out.2.2.2.2.2.2))
          clear hneg hXB
          have h0' := Lib.hid h0
          clear h0
          go_wp2_with fail
          refine HNm.out.mono ?_
          rintro e w5 ⟨z, rfl, hz, hb5⟩
          have HP5 := Lib.hid (And.intro (H5.out.1.below hb5 (H5.out.1.lt)) (And.intro (H5.out.2.1.below hb5 H5.out.2.1.lt) (PSt.below H5.out.2.2 hb5)))
          have hgl5 : gw < w5.heap.size := by have := hb5.size; rw [World.size_alloc] at this; omega
          have y4 : w5.cell? ⟨gw, j * 2 + 2, none⟩ = some (.string (strB v)) := (hb5.cell (p := ⟨gw, j * 2 + 2, none⟩) (by rw [World.size_alloc]; exact Nat.lt_succ_of_lt hgl)).trans (by rw [World.cell?_alloc_old _ _ _ (Nat.ne_of_lt hgl)]; exact y2)
          have y5 : w5.cell? ⟨gw, j * 2 + 2 + 1, none⟩ = some (.int .i64 (av : Int)) := (hb5.cell (p := ⟨gw, j * 2 + 2 + 1, none⟩) (by rw [World.size_alloc]; exact Nat.lt_succ_of_lt hgl)).trans (by rw [World.cell?_alloc_old _ _ _ (Nat.ne_of_lt hgl)]; exact y3)
          clear hb5 y2 y3
          cases hnn : numP v with
          | none =>
            have HE := Lib.hid (parse_errW HWs.out hL ((HP.out.1.nonum hj1W hk0.out (by rw [← Hv.out]; exact hnn))))
            rw [show (gW W (j + 1)).2 = av by rw [← Hv.out]] at HE
            have HBL5 := Lib.hid (HB3.out.trans (HP5.out.2.2.2.2.2.2.mono HB3.out.size))
            clear hz hnn
            go_wp2_with fail
            go_quiet (fail)
            obtain ⟨nqa, hnqa⟩ : ∃ x, x = nq := ⟨_, rfl⟩
            rw [← hnqa]
            clear hnqa
            go_wp2_with fail
            go_ret3
            exact ParsePost.bad HE.out (bdrew HBL5.out _)
          | some k =>
            obtain rfl := hz k hnn
            have HRd := Lib.hid (HP.out.1.table hj1W hk0.out (k := k) (by rw [← Hv.out]; exact hnn))
            have hkm := (numP_back hnn).2
            have HRdT : Hid (Red s.length W (j + 2) (acc ++ [((kd, (k : Int)), ax)])) := by show Red _ _ _ _; have e := HRd.out; rw [← Hx.out] at e; rw [h0'.out]; exact e
            obtain ⟨e1, e2⟩ := two_cellsV HP5.out.1
            have e3 := HP5.out.1.frozen 1
            have e4 := (two_cellsV HP5.out.2.1).2
            have lt5 := HP5.out.1.lt
            have hkd0 : 0 ≤ kd := by rw [h0'.out]; exact Int.le_refl _
            clear hz hnn
            go_wp2_with fail
            go_region
            obtain ⟨wx, hwx⟩ : ∃ x, x = (w5.setCell ⟨w4.heap.size, 1, none⟩ (.int .i64 (k : Int))).drew := ⟨_, rfl⟩
            have hX0 : rowV wx w4.heap.size 50 #[.int .i64 kd, .int .i64 (k : Int)] ∧ rowV wx wr.heap.size 61 #[.string (strB x), .int .i64 (ax : Int)] ∧ PSt w3 s.length W j acc A1 c1 A2 c2 wx := by rw [hwx]; exact after_set HP5.out.1 HP5.out.2.1 HP5.out.2.2 HP4.out.2.2.2.2.2.size (fun b hb e => by have h7 := (World.ownsRow.lt HP4.out.2.2.2.1 b hb).2; omega)
            rw [← hwx]
            clear hwx
            go_wp2_with fail
            have HX := Lib.hid (hX0)
            have l9 := HX.out.2.1.lt
            obtain ⟨v1, v2⟩ := two_cellsV HX.out.1
            obtain ⟨v3, v4⟩ := two_cellsV HX.out.2.1
            have l11 := HX.out.1.lt
            have hmk := Lib.hid (show acc.length + 1 ≤ maxLen ∧ (acc.length + 1) * 16 ≤ 140737488355328 ∧ (acc.length + 1) * 8 ≤ 140737488355328 by unfold maxLen; omega)
            go_region_law (first
              | (refine step_pushG (enc := encSt) rfl (.tmp 65) (.tmp 67) rfl uSt infoSt encSt_one rfl (fun _ => rfl) (by decide) rfl (HX.out.2.2.2.2.1.below (by repeat (first | with_reducible exact Below.refl _ _ | with_reducible refine bdrew1 ?_ | with_reducible refine balloc ?_ _))) (Nat.le_trans HX.out.2.2.2.2.2.2.size (Below.size (show Below wx.heap.size wx _ from (by repeat (first | with_reducible exact Below.refl _ _ | with_reducible refine bdrew1 ?_ | with_reducible refine balloc ?_ _))))) (kd, (k : Int)) _ rfl (two_cell (t := 50) (by repeat (first | (with_reducible refine rowV_newA ?_; first | rfl | (simp; done)) | with_reducible refine rowV_drew1 ?_ | with_reducible refine rowV_alloc1 ?_))) hmk.out.1 hmk.out.2.1 ?_; intro A7 c7 w11 ho7 hg7 hf7; have F1 := push_out HX.out.2.2 HX.out.2.1 (by repeat (first | with_reducible exact Below.refl _ _ | with_reducible refine bdrew1 ?_ | with_reducible refine balloc ?_ _)) ho7 hg7; have HQ := Lib.hid F1; have u9 := (two_cellsV F1.2.1).2; clear ho7 hg7 hf7 F1)
              | (refine step_pushG (enc := encZ) rfl (.tmp 69) (.tmp 72) rfl uZs infoZ encZ_one rfl (fun _ => rfl) (by decide) rfl (HQ.out.1.below (by repeat (first | with_reducible exact Below.refl _ _ | with_reducible refine bdrew1 ?_ | with_reducible refine balloc ?_ _))) (Nat.le_trans HQ.out.2.2.1.size (Below.size (show Below w11.heap.size w11 _ from (by repeat (first | with_reducible exact Below.refl _ _ | with_reducible refine bdrew1 ?_ | with_reducible refine balloc ?_ _))))) (ax : Int) _ rfl (one_cell (t := 3) (by first | (refine HQ.out.2.2.2.1 _ _ ?_; repeat (first | (with_reducible refine rowV_newA ?_; first | rfl | (simp; done)) | with_reducible refine rowV_drew1 ?_ | with_reducible refine rowV_alloc1 ?_)) | (repeat (first | (with_reducible refine rowV_newA ?_; first | rfl | (simp; done)) | with_reducible refine rowV_drew1 ?_ | with_reducible refine rowV_alloc1 ?_)))) hmk.out.1 hmk.out.2.2 ?_; intro A10 c10 w12 ho8 hg8 hf8; have HQ2 := Lib.hid (And.intro ho8 (push_places HQ.out.2.2.2.2 HQ.out.1 HQ.out.2.2.1 (by repeat (first | with_reducible exact Below.refl _ _ | with_reducible refine bdrew1 ?_ | with_reducible refine balloc ?_ _)) hg8)); clear ho8 hg8 hf8))
            all_goals
              go_wp2_with fail
              go_simp
              go_roundw
              case rel =>
                refine ⟨_, _, _, _, _, _, ⟨j + 2, by omega, acc ++ [((kd, (k : Int)), ax)], (by rw [List.length_append]; simp only [List.length_singleton]; omega), A7, A10, A9, c7, (by rw [List.length_append]; rfl), c10, (by rw [List.length_append]; rfl), (by rw [show m - (j + 2) = m - j - 1 - 1 by omega, show cw - (j + 2) = cw - j - 1 - 1 by omega]), (fun h => by rw [h9 (by omega), Nat.add_mul]), Lib.hid (PSt.next HRdT.out HP5.out.2.2.2.1 (by omega) (by omega) HQ2.out.2.1 HQ2.out.1 HQ2.out.2.2)⟩, rfl, rfl, rfl, rfl, rfl, rfl⟩
              case measure => (simp [slLen]) <;> omega
        · obtain rfl : m = j + 1 := by omega
          have d3 : (((j + 1 - j - 1 : Nat) : Int) == 0) = true := by simp
          have d3' : ((j + 1 - j - 1 : Nat) == 0) = true := by simp
          have HE := Lib.hid (parse_errW HWs.out hL ((HP.out.1.last hjW hk0.out (by have := Hm.out; omega))))
          have HBL5 := Lib.hid (HB3.out.trans (H5.out.2.2.2.2.2.2.mono HB3.out.size))
          have h0' := Lib.hid h0
          clear h0 hneg
          go_wp2_with fail
          go_ret3
          exact ParsePost.bad HE.out HBL5.out
      · have d2 : (kd == 0) = false := by simpa using h0
        have HRd := Lib.hid (HP.out.1.other hjW (by rw [← Hk.out]; exact hneg) (by rw [← Hk.out]; exact h0))
        have HRdT : Hid (Red s.length W (j + 1) (acc ++ [((kd, 0), ax)])) := by show Red _ _ _ _; have e := HRd.out; rw [← Hk.out, ← Hx.out] at e; exact e
        have hkd0 : 0 ≤ kd := by omega
        clear hneg h0
        go_wp2_with fail
        obtain ⟨wx, hwx⟩ : ∃ x, x = w4.alloc (.cells #[.int .i64 kd, .int .i64 0] 50) := ⟨_, rfl⟩
        rw [← hwx] at H5 ⊢
        clear hwx
        have HX := Lib.hid (H5.out)
        have l9 := HX.out.2.1.lt
        obtain ⟨v1, v2⟩ := two_cellsV HX.out.1
        obtain ⟨v3, v4⟩ := two_cellsV HX.out.2.1
        have l11 := HX.out.1.lt
        have hmk := Lib.hid (show acc.length + 1 ≤ maxLen ∧ (acc.length + 1) * 16 ≤ 140737488355328 ∧ (acc.length + 1) * 8 ≤ 140737488355328 by unfold maxLen; omega)
        go_region_law (first
          | (refine step_pushG (enc := encSt) rfl (.tmp 65) (.tmp 67) rfl uSt infoSt encSt_one rfl (fun _ => rfl) (by decide) rfl (HX.out.2.2.2.2.1.below (by repeat (first | with_reducible exact Below.refl _ _ | with_reducible refine bdrew1 ?_ | with_reducible refine balloc ?_ _))) (Nat.le_trans HX.out.2.2.2.2.2.2.size (Below.size (show Below wx.heap.size wx _ from (by repeat (first | with_reducible exact Below.refl _ _ | with_reducible refine bdrew1 ?_ | with_reducible refine balloc ?_ _))))) (kd, 0) _ rfl (two_cell (t := 50) (by repeat (first | (with_reducible refine rowV_newA ?_; first | rfl | (simp; done)) | with_reducible refine rowV_drew1 ?_ | with_reducible refine rowV_alloc1 ?_))) hmk.out.1 hmk.out.2.1 ?_; intro A7 c7 w11 ho7 hg7 hf7; have F1 := push_out HX.out.2.2 HX.out.2.1 (by repeat (first | with_reducible exact Below.refl _ _ | with_reducible refine bdrew1 ?_ | with_reducible refine balloc ?_ _)) ho7 hg7; have HQ := Lib.hid F1; have u9 := (two_cellsV F1.2.1).2; clear ho7 hg7 hf7 F1)
          | (refine step_pushG (enc := encZ) rfl (.tmp 69) (.tmp 72) rfl uZs infoZ encZ_one rfl (fun _ => rfl) (by decide) rfl (HQ.out.1.below (by repeat (first | with_reducible exact Below.refl _ _ | with_reducible refine bdrew1 ?_ | with_reducible refine balloc ?_ _))) (Nat.le_trans HQ.out.2.2.1.size (Below.size (show Below w11.heap.size w11 _ from (by repeat (first | with_reducible exact Below.refl _ _ | with_reducible refine bdrew1 ?_ | with_reducible refine balloc ?_ _))))) (ax : Int) _ rfl (one_cell (t := 3) (by first | (refine HQ.out.2.2.2.1 _ _ ?_; repeat (first | (with_reducible refine rowV_newA ?_; first | rfl | (simp; done)) | with_reducible refine rowV_drew1 ?_ | with_reducible refine rowV_alloc1 ?_)) | (repeat (first | (with_reducible refine rowV_newA ?_; first | rfl | (simp; done)) | with_reducible refine rowV_drew1 ?_ | with_reducible refine rowV_alloc1 ?_)))) hmk.out.1 hmk.out.2.2 ?_; intro A10 c10 w12 ho8 hg8 hf8; have HQ2 := Lib.hid (And.intro ho8 (push_places HQ.out.2.2.2.2 HQ.out.1 HQ.out.2.2.1 (by repeat (first | with_reducible exact Below.refl _ _ | with_reducible refine bdrew1 ?_ | with_reducible refine balloc ?_ _)) hg8)); clear ho8 hg8 hf8))
        all_goals
          go_wp2_with fail
          go_simp
          go_roundw
          case rel =>
            refine ⟨_, _, _, _, _, _, ⟨j + 1, by omega, acc ++ [((kd, 0), ax)], (by rw [List.length_append]; simp only [List.length_singleton]; omega), A7, A10, A8, c7, (by rw [List.length_append]; rfl), c10, (by rw [List.length_append]; rfl), (by rw [show m - (j + 1) = m - j - 1 by omega, show cw - (j + 1) = cw - j - 1 by omega]), (fun h => by rw [h8 (by omega), Nat.add_mul]), Lib.hid (PSt.next HRdT.out HP4.out.2.2.1 (by omega) (by omega) HQ2.out.2.1 HQ2.out.1 HQ2.out.2.2)⟩, rfl, rfl, rfl, rfl, rfl, rfl⟩
          case measure => (simp [slLen]) <;> omega
    · obtain rfl : j = m := by omega
      have d0 : decide ((0 : Int) < ((j - j : Nat) : Int)) = false := by simp
      have d0' : decide (0 < j - j) = false := by simp
      have hfin := HP.out.1.done (by have := Hm.out; omega)
      rw [HWs.out] at hfin
      have hpv := parse_ok hL hfin
      have hwf : ∀ x ∈ acc.map (·.1), (Lit.int .i64 x.1).wf = true ∧ (Lit.int .i64 x.2).wf = true := fun x hx => by
        obtain ⟨y, hy, rfl⟩ := List.mem_map.1 hx
        exact HP.out.2.1 y hy
      have hst := HP.out.2.2.1.toStgs hwf
      have HTY := Lib.hid (types_any A1 acc.length c1 (acc.map (·.1)) 0 0 wr hst (by omega))
      have HWF := Lib.hid hwf
      have hix := typE_ix (l := acc.map (·.1)) (t := (0, 0))
      obtain ⟨E, hE⟩ : ∃ E, E = typE (acc.map (·.1)) (0, 0) := ⟨_, rfl⟩
      rw [← hE] at hpv hix
      have HE := Lib.hid hE
      clear hE hfin hwf hst
      obtain ⟨er, ix⟩ := E
      dsimp only at hpv hix
      have Hpv := Lib.hid hpv
      have Hix := Lib.hid hix
      clear hpv hix
      go_wp2_with fail
      refine HTY.out.mono ?_
      rintro e w4 ⟨hp, hb4⟩
      rw [← HE.out] at hp
      dsimp only at hp
      have HBL := Lib.hid (HB3.out.trans ((HP.out.2.2.2.2.trans (hb4.mono HP.out.2.2.2.2.size)).mono HB3.out.size))
      have HO4 := Lib.hid (HP.out.2.2.1.below hb4)
      have HZ4 := Lib.hid (HP.out.2.2.2.1.below hb4)
      clear hb4 HTY
      by_cases he : er = 0
      · rw [if_pos he] at hp
        subst he
        obtain ⟨A5, c5, rfl, -⟩ := hp
        have e := Hpv.out
        rw [if_pos rfl] at e
        have He := Lib.hid e
        clear e Hpv
        go_wp2_with fail
        go_ret3
        have e := He.out
        exact ⟨A1, acc.length, c1, by rw [e]; rfl, by rw [e]; exact HO4.out.mono HB3.out.size, by rw [e]; exact HO4.out.toStgs HWF.out, HBL.out⟩
      · rw [if_neg he] at hp
        subst hp
        have q0 : (er == 0) = false := by simpa using he
        have e := Hpv.out
        rw [if_neg he] at e
        have hix := Hix.out he
        by_cases hneg : ix < 0
        · have d1 : decide (ix < 0) = true := by simpa using hneg
          rw [if_pos hneg] at e
          have He := Lib.hid e
          clear e hix hneg he
          go_wp2_with fail
          go_ret3
          exact ParsePost.bad He.out HBL.out
        · have d1 : decide (ix < 0) = false := by simpa using hneg
          rw [if_neg hneg] at e
          rcases hix with hix | ⟨k, rfl, hk⟩
          · exact absurd hix hneg
          rw [List.length_map] at hk
          obtain ⟨gz, rfl, hgz, hgz2, hgc⟩ := HZ4.out.get (fun _ => rfl) (by decide) 0 (by omega)
          have y0 := hgc k 0 _ hk rfl
          have hgd : (acc.map fun x => (x.2 : Int)).getD k 0 = (((acc.map (·.2)).getD k 0 : Nat) : Int) := by
            rw [List.getD_eq_getElem?_getD, List.getD_eq_getElem?_getD, List.getElem?_map, List.getElem?_map]
            cases acc[k]? <;> rfl
          rw [hgd, Nat.mul_one, Nat.add_zero] at y0
          rw [Int.toNat_natCast] at e
          obtain ⟨pz, hpz⟩ : ∃ pz, pz = (acc.map (·.2)).getD k 0 := ⟨_, rfl⟩
          rw [← hpz] at y0 e
          have He := Lib.hid e
          have dk : decide ((k : Int) < (acc.length : Int)) = true := by simp; omega
          have dk' : decide (k < acc.length) = true := by simp; omega
          have dk0 : decide ((0 : Int) ≤ (k : Int)) = true := by simp
          have hcz := HZ4.out.cap
          clear e he hneg hgc hpz hgd
          go_wp2_with fail
          go_quiet (fail)
          obtain ⟨nqa, hnqa⟩ : ∃ x, x = nq := ⟨_, rfl⟩
          rw [← hnqa]
          clear hnqa
          go_wp2_with fail
          go_ret3
          exact ParsePost.bad He.out (bdrew HBL.out _)
end Go.Proofs.YtohadkmaemmfgaaGreatDoor
