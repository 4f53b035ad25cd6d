/- Parse of the reference. -/
import Derived.Test.YtckkmafppfcecaaGreatDoorYh
import Derived.Test.YtckkmafppfcecaaGreatDoorYk
import Derived.Test.YtckkmafppfcecaaGreatDoorYm
import Derived.Test.YtckkmafppfcecaaGreatDoorYt
namespace Go.Proofs.YtckkmafppfcecaaGreatDoor
open Go.RowKit Go.Proofs
set_option linter.unusedVariables false
set_option linter.unusedSimpArgs false

theorem uZR : Tryz.prog.underlying 68 = some (.slice 3) := Tryz.underlying68
/-- behind the append to the places: the stages so far and the stage under way are as they were. -/
theorem place_push {w3 X Y : World} {N : Nat} {W : List (List UInt8 × Nat)} {j : Nat} {acc : Acc} {A1 A2 A7 : Option Addr} {c1 c2 c7 g : Nat} {cs : Array Value} {ax : Nat} (hP : PSt w3 N W j acc A1 c1 A2 c2 X) (hr : rowV X g 67 cs)
    (ho : OwnS encZ 1 Y w3.heap.size 3 A7 (acc.length + 1) c7 (acc.map (fun x => (x.2 : Int)) ++ [(ax : Int)])) (hg : X.grownBy Y (Value.slice A2 acc.length c2).ownBlock) :
    OwnS encSt 2 Y w3.heap.size 67 A1 acc.length c1 (acc.map (·.1)) ∧ rowV Y g 67 cs ∧ Below w3.heap.size w3 Y := by
  obtain ⟨_, _, hS, hZ, hB⟩ := hP
  exact ⟨hS.grown hg (OwnS.ne_own hS hZ (by decide)), hr.grown hg (fun e => (hZ.ne_row hr (by decide)) _ e.symm rfl), hB.trans ((Below.refl _ X).grown hg hB.size (fun k hk => (World.ownsRow.lt hZ k hk).1))⟩
theorem stage_push {w3 X Y : World} {A1 A7 : Option Addr} {n n7 c1 c7 : Nat} {l1 : List Stg} {l7 : List Int} (hS : OwnS encSt 2 X w3.heap.size 67 A1 n c1 l1) (hZ : OwnS encZ 1 X w3.heap.size 3 A7 n7 c7 l7) (hB : Below w3.heap.size w3 X)
    (hg : X.grownBy Y (Value.slice A1 n c1).ownBlock) : OwnS encZ 1 Y w3.heap.size 3 A7 n7 c7 l7 ∧ Below w3.heap.size w3 Y :=
  ⟨hZ.grown hg (OwnS.ne_own hZ hS (by decide)), hB.trans ((Below.refl _ X).grown hg hB.size (fun k hk => (World.ownsRow.lt hS k hk).1))⟩
set_option maxRecDepth 100000 in
set_option maxHeartbeats 8000000 in
theorem refParse_any (s : List UInt8) (w : World) (hs : s.length ≤ 300 ∨ 8192 < s.length ∧ s.length < 9223372036854775808) : Calls Tryz.prog 22 #[.string (strB s)] w (ParsePost s w) := by
  have hsz : (strB s).size = s.length := rfl
  by_cases hL : 8192 < s.length
  · have d8 : decide ((8192 : Int) < (s.length : Int)) = true := decide_eq_true (by omega)
    have d8' : decide (8192 < s.length) = true := decide_eq_true hL
    have HP : Hid (parseP s = ([], 0, 5)) := by show _ = _; unfold parseP; rw [if_pos hL]
    clear hs hL
    go_enter Tryz.func22, Tryz.ntmps22
    go_wp2_with fail
    go_ret3
    exact ParsePost.bad HP.out (Below.refl _ _)
  have hs3 : s.length ≤ 300 := by omega
  clear hs
  have d8 : decide ((8192 : Int) < (s.length : Int)) = false := decide_eq_false (by omega)
  have d8' : decide (8192 < s.length) = false := decide_eq_false hL
  have HS := Lib.hid (refWords_any s w (by omega))
  go_enter Tryz.func22, Tryz.ntmps22
  go_wp2_with fail
  refine HS.out.mono ?_
  rintro e w3 ⟨Aw, cw, rfl, how, hb3⟩
  have HB3 := Lib.hid hb3
  have HW := Lib.hid how
  have hbig := words_length s
  have hcapw := how.cap
  have HWA := Lib.hid (fun x hx => (words_at (s := s) (x := x) hx))
  obtain ⟨W, hW⟩ : ∃ W, W = wordsP s := ⟨_, rfl⟩
  rw [← hW] at HW hbig hcapw HWA ⊢
  have HWs := Lib.hid hW
  obtain ⟨m, hm⟩ : ∃ m, m = W.length := ⟨_, rfl⟩
  rw [← hm] at HW hbig hcapw ⊢
  have Hm := Lib.hid hm
  clear hb3 how hW hm HS
  go_wp2_with fail
  go_loopw [6, 7, 8, 9, 10, 11] (fun o p i _ _ _ wr => ∃ (j : Nat) (acc : Acc) (A1 A2 : Option Addr) (c1 c2 : Nat), j ≤ m ∧ acc.length ≤ j ∧ o = .slice A1 acc.length c1 ∧ p = .slice A2 acc.length c2 ∧ i = .int .i64 (j : Int) ∧ Hid (PSt w3 s.length W j acc A1 c1 A2 c2 wr)) (fun _ _ i _ _ _ _ => m - (intOf i).toNat)
  case atStart => exact ⟨0, [], none, none, 0, 0, Nat.zero_le _, Nat.zero_le _, rfl, rfl, rfl, Lib.hid ⟨Red.start _ _, (fun x hx => by cases hx), OwnS.nil _ _ _ _ _, OwnS.nil _ _ _ _ _, Below.refl _ _⟩⟩
  case round =>
    obtain ⟨j, acc, A1, A2, c1, c2, hj, hal, rfl, rfl, rfl, HP⟩ := hrel
    by_cases hlt : j < m
    · obtain ⟨gw, rfl, hgw1, hgw2, hgc⟩ := HW.out.get (fun _ => rfl) (by decide) ([], 0) (by omega)
      have d0 : decide ((j : Int) < (m : Int)) = true := decide_eq_true (by omega)
      have d0' : decide (j < m) = true := decide_eq_true hlt
      have y0 : wr.cell? ⟨gw, j * 2, none⟩ = some (.string (strB (gW W j).1)) := (HP.out.2.2.2.2.cell (p := ⟨gw, j * 2, none⟩) hgw2).trans (by have := hgc j 0 _ hlt rfl; rw [Nat.add_zero] at this; exact this)
      have Y1 : Hid (∀ X, Below w3.heap.size w3 X → X.cell? ⟨gw, j * 2 + 1, none⟩ = some (.int .i64 (gW W j).2)) := fun X hX => (hX.cell (p := ⟨gw, j * 2 + 1, none⟩) hgw2).trans (hgc j 1 _ hlt rfl)
      have HGC := Lib.hid hgc
      have hjW : j < W.length := by have := Hm.out; omega
      have HXA := Lib.hid (HWA.out (gW W j) (gW_mem hjW))
      obtain ⟨⟨x, ax⟩, hx⟩ : ∃ x, x = gW W j := ⟨_, rfl⟩
      rw [← hx] at y0 Y1 HXA
      have Hx := Lib.hid hx
      clear hx hgc
      dsimp only at y0 Y1
      have HK := Lib.hid (refKind_any x wr)
      have hkr := kind_range x
      have Hk : Hid (kindP x = kindP (gW W j).1) := by show _ = _; rw [← Hx.out]
      obtain ⟨kd, hkd⟩ : ∃ kd, kd = kindP x := ⟨_, rfl⟩
      rw [← hkd] at hkr Hk HK
      clear hkd
      obtain ⟨wA, hwA⟩ : ∃ wA, wA = wr.alloc (.cells #[.int .i64 kd, .int .i64 0] 67) := ⟨_, rfl⟩
      have hbA : Below wr.heap.size wr wA := by rw [hwA]; exact balloc (Below.refl _ _) _
      have rA : rowV wA wr.heap.size 67 #[.int .i64 kd, .int .i64 0] := by rw [hwA]; exact rowV.new wr _ _
      have HPA := Lib.hid (HP.out.below hbA)
      have HWA2 := Lib.hid hwA
      have RA := Lib.hid rA
      by_cases hneg : kd < 0
      · have d1 : decide (kd < 0) = true := decide_eq_true hneg
        have HE := Lib.hid (parse_errW HWs.out hL ((HP.out.1.bad hjW (by rw [← Hk.out]; exact hneg))))
        rw [show (gW W j).2 = ax by rw [← Hx.out]] at HE
        have HBL := Lib.hid (HB3.out.trans (HPA.out.2.2.2.2.mono HB3.out.size))
        have y1 := Y1.out wA HPA.out.2.2.2.2
        rw [hwA] at y1
        clear hneg hwA hbA rA
        go_wp2_with fail
        refine HK.out.mono ?_
        rintro e w4 ⟨rfl, hw4⟩
        obtain rfl : wr = w4 := hw4.symm
        go_wp2_with fail
        go_quiet (fail)
        obtain ⟨nqa, hnqa⟩ : ∃ x, x = nq := ⟨_, rfl⟩
        rw [← hnqa]
        clear hnqa
        go_wp2_with fail
        go_ret3
        rw [← HWA2.out]
        exact ParsePost.bad HE.out (bdrew HBL.out _)
      have d1 : decide (kd < 0) = false := decide_eq_false hneg
      have y1 := Y1.out wA HPA.out.2.2.2.2
      rw [hwA] at y1
      have hmk := Lib.hid (show acc.length + 1 ≤ maxLen ∧ (acc.length + 1) * 16 ≤ 140737488355328 ∧ (acc.length + 1) * 8 ≤ 140737488355328 by unfold maxLen; omega)
      have HZA := Lib.hid HPA.out.2.2.2.1
      rw [hwA] at HZA
      have HSA : Hid (w3.heap.size ≤ (wr.alloc (.cells #[.int .i64 kd, .int .i64 0] 67)).heap.size) := by show _ ≤ _; rw [← hwA]; exact HPA.out.2.2.2.2.size
      clear hwA hbA rA
      have HSZ := Lib.hid (show wr.heap.size + 1 = (wr.alloc (.cells #[.int .i64 kd, .int .i64 0] 67)).heap.size from (World.size_alloc _ _).symm)
      go_wp2_with fail
      refine HK.out.mono ?_
      rintro e w4 ⟨rfl, hw4⟩
      obtain rfl : wr = w4 := hw4.symm
      have Hneg := Lib.hid hneg
      clear hneg
      by_cases h0 : kd = 0
      · have d2 : (kd == 0) = true := by simpa using h0
        have hk0 : Hid (kindP (gW W j).1 = 0) := by show _ = _; rw [← Hk.out]; exact h0
        have H0 := Lib.hid h0
        clear h0
        by_cases hl : j + 1 < m
        · have d3 : ((j : Int) + 1 == (m : Int)) = false := by rw [beq_eq_false_iff_ne]; omega
          have d4 : decide ((j : Int) + 1 < (m : Int)) = true := decide_eq_true (by omega)
          have d4' : decide (j + 1 < m) = true := decide_eq_true hl
          have Y2 : Hid (∀ X, Below w3.heap.size w3 X → X.cell? ⟨gw, (j + 1) * 2, none⟩ = some (.string (strB (gW W (j + 1)).1))) := fun X hX => (hX.cell (p := ⟨gw, (j + 1) * 2, none⟩) hgw2).trans (by have := HGC.out (j + 1) 0 _ hl rfl; rw [Nat.add_zero] at this; exact this)
          have Y3 : Hid (∀ X, Below w3.heap.size w3 X → X.cell? ⟨gw, (j + 1) * 2 + 1, none⟩ = some (.int .i64 (gW W (j + 1)).2)) := fun X hX => (hX.cell (p := ⟨gw, (j + 1) * 2 + 1, none⟩) hgw2).trans (HGC.out (j + 1) 1 _ hl rfl)
          have hj1W : j + 1 < W.length := by have := Hm.out; omega
          have hXB := HWA.out (gW W (j + 1)) (gW_mem hj1W)
          obtain ⟨⟨v, av⟩, hv⟩ : ∃ x, x = gW W (j + 1) := ⟨_, rfl⟩
          rw [← hv] at Y2 Y3 hXB
          have Hv := Lib.hid hv
          clear hv
          dsimp only at Y2 Y3 hXB
          go_wp2_with (at_builtin; refine wpList_pushS (enc := encZ) rfl (.tmp 41) (.tmp 47) rfl uZR infoZ encZ_one rfl (fun _ => rfl) (by decide) rfl HZA.out HSA.out (ax : Int) _ rfl (congrArg (fun g => Value.slice (some ⟨g, 0, none⟩) 1 1) HSZ.out) hmk.out.1 hmk.out.2.2 ?_; intro A7 c7 w7 ho7 hb7 hg7; rw [← HWA2.out] at hg7; obtain ⟨hS7, r7, hB7⟩ := place_push HPA.out RA.out ho7 hg7; obtain ⟨k0, k1⟩ := two_cellsV r7; have y2 := Y2.out w7 hB7)
          have HO7 := Lib.hid ho7
          have HS7 := Lib.hid hS7
          have HB7 := Lib.hid hB7
          have R7 := Lib.hid r7
          clear ho7 hb7 hg7 hS7 r7 hB7 y0 y1
          have HNm := Lib.hid (refNumber_any v w7 (by omega))
          clear hXB
          refine HNm.out.mono ?_
          rintro e w8 ⟨z, rfl, hz, hb8⟩
          have HR8 := Lib.hid (R7.out.below hb8 R7.out.lt)
          have HS8 := Lib.hid (HS7.out.below hb8)
          have HO8 := Lib.hid (HO7.out.below hb8)
          have HB8 := Lib.hid (HB7.out.trans (hb8.mono HB7.out.size))
          have y3 := Y3.out w8 HB8.out
          clear hb8 y2 k0 k1
          cases hnn : numP v with
          | none =>
            have HE := Lib.hid (parse_errW HWs.out hL ((HP.out.1.nonum hj1W hk0.out (by rw [← Hv.out]; exact hnn))))
            rw [show (gW W (j + 1)).2 = av by rw [← Hv.out]] at HE
            have HBL := Lib.hid (HB3.out.trans (HB8.out.mono HB3.out.size))
            clear hz hnn
            go_wp2_with fail
            go_quiet (fail)
            obtain ⟨nqa, hnqa⟩ : ∃ x, x = nq := ⟨_, rfl⟩
            rw [← hnqa]
            clear hnqa
            go_wp2_with fail
            go_ret3
            exact ParsePost.bad HE.out (bdrew HBL.out _)
          | some k =>
            obtain rfl := hz k hnn
            have HRd := Lib.hid (HP.out.1.table hj1W hk0.out (k := k) (by rw [← Hv.out]; exact hnn))
            have hkm := (numP_back hnn).2
            have HRdT : Hid (Red s.length W (j + 2) (acc ++ [((kd, (k : Int)), ax)])) := by show Red _ _ _ _; have e := HRd.out; rw [← Hx.out] at e; rw [H0.out]; exact e
            have hkd0 : 0 ≤ kd := by rw [H0.out]; exact Int.le_refl _
            obtain ⟨e1, e2⟩ := two_cellsV HR8.out
            have e3 := HR8.out.frozen 1
            have hgb : w8.grownBy (w8.setCell ⟨wr.heap.size, 1, none⟩ (.int .i64 (k : Int))) (some wr.heap.size) := ⟨rfl, rfl, rfl, by simp [World.setCell], fun i hi hne => Below.heap_setCell w8 ⟨wr.heap.size, 1, none⟩ _ i (fun e => hne (by rw [e]))⟩
            obtain ⟨wx, hwx⟩ : ∃ wx, wx = w8.setCell ⟨wr.heap.size, 1, none⟩ (.int .i64 (k : Int)) := ⟨_, rfl⟩
            rw [← hwx] at hgb
            have rx : rowV wx wr.heap.size 67 #[.int .i64 kd, .int .i64 (k : Int)] := by rw [hwx]; exact HR8.out.set 1 _
            have HSX := Lib.hid (HS8.out.grown hgb (fun b hb e => by have h7 := (World.ownsRow.lt HP.out.2.2.1 b hb).2; injection e with e; omega))
            have HOX := Lib.hid (HO8.out.grown hgb (HO8.out.ne_row HR8.out (by decide)))
            have HBX := Lib.hid (HB8.out.trans ((Below.refl w3.heap.size w8).grown hgb HB8.out.size (fun q hq => by injection hq with hq; subst hq; exact HP.out.2.2.2.2.size)))
            obtain ⟨v1, v2⟩ := two_cellsV rx
            have HWX := Lib.hid hwx
            have HSW := Lib.hid HBX.out.size
            clear hz hnn hgb rx
            rw [hwx] at v1 v2
            have HSX2 := HSX
            have HSW2 := HSW
            rw [hwx] at HSX2 HSW2
            clear hwx y3
            have HSZ8 := Lib.hid (show w8.heap.size = (w8.setCell ⟨wr.heap.size, 1, none⟩ (.int .i64 (k : Int))).heap.size by simp [World.setCell])
            go_wp2_with (at_builtin; refine wpList_pushS (enc := encSt) rfl (.tmp 78) (.tmp 80) rfl uSt infoSt encSt_one rfl (fun _ => rfl) (by decide) rfl HSX2.out HSW2.out (kd, (k : Int)) _ rfl (congrArg (fun g => Value.slice (some ⟨g, 0, none⟩) 1 1) HSZ8.out) hmk.out.1 hmk.out.2.1 ?_; intro A9 c9 w9 ho9 hb9 hg9)
            rw [← HWX.out] at hg9
            obtain ⟨hZ9, hB9⟩ := stage_push HSX.out HOX.out HBX.out hg9
            have HN9 := Lib.hid (PSt.next HRdT.out HP.out.2.1 ⟨hkd0, hkr.2⟩ ⟨by omega, by omega⟩ ho9 hZ9 hB9)
            clear ho9 hb9 hg9 hZ9 hB9 v1 v2 e1 e2 e3
            go_wp2_with fail
            go_roundw
            case rel => exact ⟨j + 2, acc ++ [((kd, (k : Int)), ax)], A9, A7, c9, c7, by omega, (by rw [List.length_append]; simp only [List.length_singleton]; omega), (by rw [List.length_append]; rfl), (by rw [List.length_append]; rfl), by go_num, HN9⟩
            case measure => (simp [intOf]) <;> omega
        · obtain rfl : m = j + 1 := by omega
          have d3 : ((j : Int) + 1 == ((j + 1 : Nat) : Int)) = true := by rw [beq_iff_eq]; omega
          have d3' : ((j : Int) + 1 == (j : Int) + 1) = true := by rw [beq_iff_eq]
          have HE := Lib.hid (parse_errW HWs.out hL ((HP.out.1.last hjW hk0.out (by have := Hm.out; omega))))
          go_wp2_with (at_builtin; refine wpList_pushS (enc := encZ) rfl (.tmp 41) (.tmp 47) rfl uZR infoZ encZ_one rfl (fun _ => rfl) (by decide) rfl HZA.out HSA.out (ax : Int) _ rfl (congrArg (fun g => Value.slice (some ⟨g, 0, none⟩) 1 1) HSZ.out) hmk.out.1 hmk.out.2.2 ?_; intro A7 c7 w7 ho7 hb7 hg7; rw [← HWA2.out] at hg7; obtain ⟨hS7, r7, hB7⟩ := place_push HPA.out RA.out ho7 hg7; obtain ⟨k0, k1⟩ := two_cellsV r7)
          have HO7 := Lib.hid ho7
          have HS7 := Lib.hid hS7
          have HB7 := Lib.hid hB7
          have R7 := Lib.hid r7
          clear ho7 hb7 hg7 hS7 r7 hB7 y0 y1
          have HBL := Lib.hid (HB3.out.trans (HB7.out.mono HB3.out.size))
          go_ret3
          exact ParsePost.bad HE.out HBL.out
      · have d2 : (kd == 0) = false := by simpa using h0
        have HRd := Lib.hid (HP.out.1.other hjW (by rw [← Hk.out]; have := Hneg.out; omega) (by rw [← Hk.out]; exact h0))
        have HRdT : Hid (Red s.length W (j + 1) (acc ++ [((kd, 0), ax)])) := by show Red _ _ _ _; have e := HRd.out; rw [← Hk.out, ← Hx.out] at e; exact e
        have hkd0 : 0 ≤ kd := by have := Hneg.out; omega
        clear h0
        go_wp2_with (at_builtin; first | (refine wpList_pushS (enc := encZ) rfl (.tmp 41) (.tmp 47) rfl uZR infoZ encZ_one rfl (fun _ => rfl) (by decide) rfl HZA.out HSA.out (ax : Int) _ rfl (congrArg (fun g => Value.slice (some ⟨g, 0, none⟩) 1 1) HSZ.out) hmk.out.1 hmk.out.2.2 ?_; intro A7 c7 w7 ho7 hb7 hg7; rw [← HWA2.out] at hg7; obtain ⟨hS7, r7, hB7⟩ := place_push HPA.out RA.out ho7 hg7; obtain ⟨k0, k1⟩ := two_cellsV r7; have HO7 := Lib.hid ho7; have HS7 := Lib.hid hS7; have HB7 := Lib.hid hB7; have R7 := Lib.hid r7; have HSW := Lib.hid HB7.out.size; clear ho7 hb7 hg7 hS7 r7 hB7) | (refine wpList_pushS (enc := encSt) rfl (.tmp 78) (.tmp 80) rfl uSt infoSt encSt_one rfl (fun _ => rfl) (by decide) rfl HS7.out HSW.out (kd, 0) _ rfl rfl hmk.out.1 hmk.out.2.1 ?_; intro A9 c9 w9 ho9 hb9 hg9))
        clear y0 y1
        obtain ⟨hZ9, hB9⟩ := stage_push HS7.out HO7.out HB7.out hg9
        have HN9 := Lib.hid (PSt.next HRdT.out HP.out.2.1 ⟨hkd0, hkr.2⟩ ⟨by omega, by omega⟩ ho9 hZ9 hB9)
        clear ho9 hb9 hg9 hZ9 hB9 k0 k1
        go_wp2_with fail
        go_roundw
        case rel => exact ⟨j + 1, acc ++ [((kd, 0), ax)], A9, A7, c9, c7, by omega, (by rw [List.length_append]; simp only [List.length_singleton]; omega), (by rw [List.length_append]; rfl), (by rw [List.length_append]; rfl), by go_num, HN9⟩
        case measure => (simp [intOf]) <;> omega
    · obtain rfl : j = m := by omega
      have d0 : decide ((j : Int) < (j : Int)) = false := by simp
      have hfin := HP.out.1.done (by have := Hm.out; omega)
      rw [HWs.out] at hfin
      have hpv := parse_ok hL hfin
      have hwf : ∀ x ∈ acc.map (·.1), (Lit.int .i64 x.1).wf = true ∧ (Lit.int .i64 x.2).wf = true := fun x hx => by
        obtain ⟨y, hy, rfl⟩ := List.mem_map.1 hx
        exact HP.out.2.1 y hy
      have hst := HP.out.2.2.1.toStgs hwf
      have HTY := refTyped_any A1 acc.length c1 (acc.map (·.1)) 0 0 wr hst (by omega)
      have HWF := Lib.hid hwf
      have hix := typE_ix (l := acc.map (·.1)) (t := (0, 0))
      obtain ⟨⟨t1, t2⟩, ht⟩ : ∃ t, t = typeP (acc.map (·.1)) (0, 0) := ⟨_, rfl⟩
      obtain ⟨⟨er, ix⟩, hE⟩ : ∃ E, E = typE (acc.map (·.1)) (0, 0) := ⟨_, rfl⟩
      rw [← hE] at hpv hix HTY
      rw [← ht] at HTY
      dsimp only at hpv hix HTY
      replace HTY := Lib.hid HTY
      have Hpv := Lib.hid hpv
      have Hix := Lib.hid hix
      clear hpv hix hE ht hfin hwf hst
      go_wp2_with fail
      refine HTY.out.mono ?_
      rintro e w4 ⟨rfl, hb4⟩
      have hb5 : Below w4.heap.size w4 (w4.alloc (.cells #[.int .i64 t1, .int .i64 t2] 33)) := balloc (Below.refl _ _) _
      have hb45 := hb4.trans (hb5.mono hb4.size)
      have HBL := Lib.hid (HB3.out.trans ((HP.out.2.2.2.2.trans (hb45.mono HP.out.2.2.2.2.size)).mono HB3.out.size))
      have HO4 := Lib.hid (HP.out.2.2.1.below hb45)
      have HZ4 := Lib.hid (HP.out.2.2.2.1.below hb45)
      clear hb4 hb5 hb45 HTY
      by_cases he : er = 0
      · subst he
        have e := Hpv.out
        rw [if_pos rfl] at e
        have He := Lib.hid e
        clear e Hpv Hix
        go_wp2_with fail
        go_ret3
        have e := He.out
        exact ⟨A1, acc.length, c1, by rw [e]; rfl, by rw [e]; exact HO4.out.mono HB3.out.size, by rw [e]; exact HO4.out.toStgs HWF.out, HBL.out⟩
      · have q0 : (er == 0) = false := by simpa using he
        have e := Hpv.out
        rw [if_neg he] at e
        have hix := Hix.out he
        clear Hix
        by_cases hneg : ix < 0
        · have d1 : decide (0 ≤ ix) = false := decide_eq_false (by omega)
          rw [if_pos hneg] at e
          have He := Lib.hid e
          have q1 : decide (er = 0) = false := decide_eq_false he
          have q2 : (er != 0) = true := by simpa using he
          clear e hix hneg
          go_wp2_with fail
          go_ret3
          exact ParsePost.bad He.out HBL.out
        · rw [if_neg hneg] at e
          rcases hix with hix | ⟨k, rfl, hk⟩
          · exact absurd hix hneg
          rw [List.length_map] at hk
          obtain ⟨gz, rfl, hgz, hgz2, hgc⟩ := HZ4.out.get (fun _ => rfl) (by decide) 0 (by omega)
          have y0 := hgc k 0 _ hk rfl
          have hgd : (acc.map fun x => (x.2 : Int)).getD k 0 = (((acc.map (·.2)).getD k 0 : Nat) : Int) := by
            rw [List.getD_eq_getElem?_getD, List.getD_eq_getElem?_getD, List.getElem?_map, List.getElem?_map]
            cases acc[k]? <;> rfl
          rw [hgd, Nat.mul_one, Nat.add_zero] at y0
          rw [Int.toNat_natCast] at e
          obtain ⟨pz, hpz⟩ : ∃ pz, pz = (acc.map (·.2)).getD k 0 := ⟨_, rfl⟩
          rw [← hpz] at y0 e
          have He := Lib.hid e
          have dk : decide ((k : Int) < (acc.length : Int)) = true := decide_eq_true (by omega)
          have dk' : decide (k < acc.length) = true := decide_eq_true hk
          have dk0 : decide ((0 : Int) ≤ (k : Int)) = true := decide_eq_true (by omega)
          have hcz := HZ4.out.cap
          have q1 : decide (er = 0) = false := decide_eq_false he
          have q2 : (er != 0) = true := by simpa using he
          clear e hneg hgc hpz hgd
          go_wp2_with fail
          go_quiet (fail)
          obtain ⟨nqa, hnqa⟩ : ∃ x, x = nq := ⟨_, rfl⟩
          rw [← hnqa]
          clear hnqa
          go_wp2_with fail
          go_ret3
          exact ParsePost.bad He.out (bdrew HBL.out _)
end Go.Proofs.YtckkmafppfcecaaGreatDoor
