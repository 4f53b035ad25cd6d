/- Walk of the law ListingOrders. (Printed by wip/mkorders17.py.) -/
import Derived.Test.YtmijalhilalaoaaDoorTu
namespace Go.Proofs.YtmijalhilalaoaaDoor
open Go.RowKit Go.Proofs
set_option linter.unusedVariables false
set_option linter.unusedSimpArgs false

set_option maxRecDepth 100000 in
set_option maxHeartbeats 80000000 in
theorem listingOrders_any (A A' : Option Addr) (n c n' c' : Nat) (L : Int) (D D' : Option Addr) (m d m' d' : Nat) (M : Int) (p q : Prg) (w : World) (hx : Progs w A n c L A' n' c' p) (hy : Progs w D m d M D' m' d' q) (hT : TabI w) :
    Calls Tryd.prog 6 #[.agg #[.slice A n c, .int .i64 L, .slice A' n' c'], .agg #[.slice D m d, .int .i64 M, .slice D' m' d']] w (RetB w true) := by
  have HP0 : Hid ((∀ i ∈ p.code, 0 ≤ i.arg) ∧ (∀ i ∈ q.code, 0 ≤ i.arg)) := ⟨fun i hi => (hx.code.2.2.1 i hi).1, fun i hi => (hy.code.2.2.1 i hi).1⟩
  have HnC := Lib.hid hx.code.1
  have HmC := Lib.hid hy.code.1
  obtain ⟨g0, r0, s0⟩ := two_alloc w #[.slice A n c, .int .i64 L, .slice A' n' c'] #[.slice D m d, .int .i64 M, .slice D' m' d'] 25 25
  obtain ⟨w0, hw0⟩ : ∃ w0, w0 = (w.alloc (.cells #[.slice A n c, .int .i64 L, .slice A' n' c'] 25)).alloc (.cells #[.slice D m d, .int .i64 M, .slice D' m' d'] 25) := ⟨_, rfl⟩
  rw [← hw0] at g0 r0 s0
  obtain ⟨c0, c1, c2⟩ := three_cells r0
  obtain ⟨t0, t1, t2⟩ := three_cells s0
  have hx0 := hx.below g0
  have hy0 := hy.below g0
  have hT0 := hT.below g0
  have HF := Lib.hid (few_any A A' n c n' c' L w0)
  have Hw0 := Lib.hid hw0
  clear hw0 hx hy
  go_enter Tryd.func6, Tryd.ntmps6
  go_upto_region 1 with (fail)
  rw [← Hw0.out]
  clear Hw0
  go_wp2_with fail
  refine HF.out.mono ?_
  rintro e w1 ⟨rfl, hb1⟩
  have b1 := g0.trans (hb1.mono g0.size)
  have r1 := r0.below hb1 r0.lt
  have s1 := s0.below hb1 s0.lt
  have hx1 := hx0.below hb1
  have hy1 := hy0.below hb1
  have hT1 := hT0.below hb1
  clear HF c0 c1 c2 t0 t1 t2 r0 s0 hx0 hy0 hT0 hb1
  obtain ⟨c0, c1, c2⟩ := three_cells r1
  obtain ⟨t0, t1, t2⟩ := three_cells s1
  have F1 := Lib.hid (fun h => fewB_le (n := n) (n' := n') h)
  cases hf : fewB n n' with
  | false =>
    go_wp2_with fail
    refine (awake_any w1 hT1).mono ?_
    rintro e w2 ⟨rfl, hb2⟩
    go_wp2_with fail
    go_ret
    exact ⟨rfl, b1.trans (hb2.mono b1.size)⟩
  | true =>
    obtain ⟨l1, l2⟩ := F1.out hf
    have HF := Lib.hid (few_any D D' m d m' d' M w1)
    clear F1 hf
    go_wp2_with fail
    refine HF.out.mono ?_
    rintro e w2 ⟨rfl, hb2⟩
    have b2 := b1.trans (hb2.mono b1.size)
    have r2 := r1.below hb2 r1.lt
    have s2 := s1.below hb2 s1.lt
    have hx2 := hx1.below hb2
    have hy2 := hy1.below hb2
    have hT2 := hT1.below hb2
    clear HF c0 c1 c2 t0 t1 t2 r1 s1 hx1 hy1 hT1 hb2
    obtain ⟨c0, c1, c2⟩ := three_cells r2
    obtain ⟨t0, t1, t2⟩ := three_cells s2
    have F1 := Lib.hid (fun h => fewB_le (n := m) (n' := m') h)
    cases hf : fewB m m' with
    | false =>
      go_wp2_with fail
      refine (awake_any w2 hT2).mono ?_
      rintro e w3 ⟨rfl, hb3⟩
      go_wp2_with fail
      go_ret
      exact ⟨rfl, b2.trans (hb3.mono b2.size)⟩
    | true =>
      obtain ⟨l3, l4⟩ := F1.out hf
      clear F1 hf
      have H1 := Lib.hid (differ_any A A' n c n' c' L D D' m d m' d' M p q w2 hx2 hy2 (by omega) (by omega))
      have H2 := Lib.hid (fun W h h' => differ_any D D' m d m' d' M A A' n c n' c' L q p W h h' (by omega) (by omega))
      rw [← difN_symm p.code q.code, ← dec_symm p.code q.code] at H2
      obtain ⟨K, X, hK1, hK2, HK, hdn, hdb⟩ : ∃ (K : Nat) (X : Bool), K ≤ n' ∧ K ≤ m' ∧ Hid ((X = true → ∀ j, j < K → gI p.code j = gI q.code j) ∧ (X = true → K < n' → K < m' → gI p.code K ≠ gI q.code K) ∧ (X = true → sameB p q = false)) ∧ difN p.code q.code = (K : Int) ∧ (!decide (p.code = q.code)) = X := by
        by_cases he : p.code = q.code
        · refine ⟨0, false, Nat.zero_le _, Nat.zero_le _, ⟨fun h => (by cases h), fun h => (by cases h), fun h => (by cases h)⟩, ?_, by rw [decide_eq_true he]; rfl⟩
          unfold difN; rw [if_pos he]; rfl
        · obtain ⟨s1, s2, s3, s4⟩ := cmn_spec p.code q.code
          rw [HnC.out] at s1 s4
          rw [HmC.out] at s2 s4
          refine ⟨cmn p.code q.code, true, s1, s2, ⟨fun _ => s3, fun _ => s4, fun _ => ?_⟩, ?_, by rw [decide_eq_false he]; rfl⟩
          · unfold sameB; rw [decide_eq_false he]; simp
          · unfold difN; rw [if_neg he]
      rw [hdn, hdb] at H1 H2
      clear hdn hdb
      go_wp2_with fail
      refine H1.out.mono ?_
      rintro e w3 ⟨rfl, hb3⟩
      have b3 := b2.trans (hb3.mono b2.size)
      have r3 := r2.below hb3 r2.lt
      have s3 := s2.below hb3 s2.lt
      have hx3 := hx2.below hb3
      have hy3 := hy2.below hb3
      have hT3 := hT2.below hb3
      clear H1 c0 c1 c2 t0 t1 t2 r2 s2 hx2 hy2 hT2 hb3
      obtain ⟨c0, c1, c2⟩ := three_cells r3
      obtain ⟨t0, t1, t2⟩ := three_cells s3
      have H3 := Lib.hid (H2.out w3 hy3 hx3)
      clear H2
      go_wp2_with fail
      refine H3.out.mono ?_
      rintro e w4 ⟨rfl, hb4⟩
      have b4 := b3.trans (hb4.mono b3.size)
      have r4 := r3.below hb4 r3.lt
      have s4 := s3.below hb4 s3.lt
      have hx4 := hx3.below hb4
      have hy4 := hy3.below hb4
      have hT4 := hT3.below hb4
      clear H3 c0 c1 c2 t0 t1 t2 r3 s3 hx3 hy3 hT3 hb4
      obtain ⟨c0, c1, c2⟩ := three_cells r4
      obtain ⟨t0, t1, t2⟩ := three_cells s4
      have HS1 : Hid (∀ W, Below w4.heap.size w4 W → Calls Tryd.prog 16 (#[Value.agg #[.slice A n c, .int .i64 L, .slice A' n' c'], Value.agg #[.slice D m d, .int .i64 M, .slice D' m' d']] : Array Value) W (RetB W (sameB p q))) := fun W h => same_any A A' n c n' c' L D D' m d m' d' M p q W (hx4.below h) (hy4.below h) (by omega) (by omega) (by omega) (by omega)
      have HS2 : Hid (∀ W, Below w4.heap.size w4 W → Calls Tryd.prog 16 (#[Value.agg #[.slice D m d, .int .i64 M, .slice D' m' d'], Value.agg #[.slice A n c, .int .i64 L, .slice A' n' c']] : Array Value) W (RetB W (sameB p q))) := fun W h => by
        rw [sameB_symm]; exact same_any D D' m d m' d' M A A' n c n' c' L q p W (hy4.below h) (hx4.below h) (by omega) (by omega) (by omega) (by omega)
      have HS3 : Hid (∀ W, Below w4.heap.size w4 W → Calls Tryd.prog 16 #[Value.agg #[.slice A n c, .int .i64 L, .slice A' n' c'], Value.agg #[.slice A n c, .int .i64 L, .slice A' n' c']] W (RetB W true)) := fun W h => by
        have := same_any A A' n c n' c' L A A' n c n' c' L p p W (hx4.below h) (hx4.below h) (by omega) (by omega) (by omega) (by omega)
        rwa [sameB_iff.2 rfl] at this
      have HPa : Hid (∀ W, Below w4.heap.size w4 W → Calls Tryd.prog 10 #[.agg #[.slice A n c, .int .i64 L, .slice A' n' c']] W (RetSE W (printT p) (printE p))) := fun W h => print_any A A' n c n' c' L p W (hx4.below h) (hT4.below h)
      have HPb : Hid (∀ W, Below w4.heap.size w4 W → Calls Tryd.prog 10 #[.agg #[.slice D m d, .int .i64 M, .slice D' m' d']] W (RetSE W (printT q) (printE q))) := fun W h => print_any D D' m d m' d' M q W (hy4.below h) (hT4.below h)
      have HAw : Hid (∀ W, Below w4.heap.size w4 W → Calls Tryd.prog 9 #[] W (RetB W true)) := fun W h => awake_any W (hT4.below h)
      have HE : Hid (printE p = 0 → printE q = 0 → ((strB (printT p)).toList == (strB (printT q)).toList) = sameB p q) := fun h1 h2 => print_same h1 h2 HP0.out.1 HP0.out.2
      have HK1 := Lib.hid HK.out.1
      have HK2 := Lib.hid HK.out.2.1
      have HK3 := Lib.hid HK.out.2.2
      obtain ⟨sb, hsb⟩ : ∃ sb, sb = sameB p q := ⟨_, rfl⟩
      rw [← hsb] at HS1 HS2 HE HK3
      clear hsb HK l1 l3
      obtain ⟨T1, hT1⟩ : ∃ T1, T1 = printT p := ⟨_, rfl⟩
      obtain ⟨T2, hT2⟩ : ∃ T2, T2 = printT q := ⟨_, rfl⟩
      obtain ⟨E1, hE1⟩ : ∃ E1, E1 = printE p := ⟨_, rfl⟩
      obtain ⟨E2, hE2⟩ : ∃ E2, E2 = printE q := ⟨_, rfl⟩
      rw [← hT1, ← hE1] at HPa
      rw [← hT2, ← hE2] at HPb
      rw [← hT1, ← hT2, ← hE1, ← hE2] at HE
      clear hT1 hT2 hE1 hE2
      have y1 := r4.lt
      have y2 := s4.lt
      have dKX : ∀ z : Bool, (z != z) = false := fun z => by cases z <;> rfl
      have hmin : decide (min (n' : Int) (m' : Int) < (K : Int)) = false := by simp; omega
      have hmin' : decide (min n' m' < K) = false := by simp; omega
      go_upto_block 0 with fail
      go_cut [9] from 58 to 76 (fun s9 wx => Drawn w4 wx)
      case first =>
       cases X with
       | false =>
        go_wp2_with fail
        go_loopw [9] (fun i wr => i = .int .i64 0 ∧ Drawn w4 wr) (fun _ _ => 0)
        case atStart => exact ⟨rfl, Drawn.refl _⟩
        case round =>
          obtain ⟨rfl, u, rfl⟩ := hrel
          go_wp2_with fail
          go_meet
          exact ⟨u, rfl⟩
       | true =>
        have hK1' := HK1.out rfl
        have HKj := Lib.hid hK1'
        clear hK1' HK1
        go_wp2_with fail
        go_loopw [9] (fun i wr => ∃ j : Nat, j ≤ K ∧ i = .int .i64 (j : Int) ∧ Drawn w4 wr) (fun i _ => K - (intOf i).toNat)
        case atStart => exact ⟨0, Nat.zero_le _, rfl, Drawn.refl _⟩
        case round =>
          obtain ⟨j, hj, rfl, u, rfl⟩ := hrel
          by_cases hlt : j < K
          · have e1 : decide ((j : Int) < (K : Int)) = true := by simp; omega
            have e1' : decide (j < K) = true := by simp; omega
            have k1 : j < n' := by omega
            have k2 : j < m' := by omega
            obtain ⟨b, off, rfl, hbl, hcell⟩ := hx4.code.get k1
            obtain ⟨b2, off2, rfl, hbl2, hcell2⟩ := hy4.code.get k2
            obtain ⟨q1, q2⟩ := hcell j k1
            obtain ⟨q3, q4⟩ := hcell2 j k2
            rw [← HKj.out j hlt] at q3 q4
            clear hcell hcell2
            obtain ⟨x, hxe⟩ : ∃ x, x = gI p.code j := ⟨_, rfl⟩
            rw [← hxe] at q1 q2 q3 q4
            clear hxe
            obtain ⟨o1, x1⟩ := x
            dsimp only at q1 q2 q3 q4
            have u1 := stI
            have u2 := utI
            have u3 := gdI
            have hq := neqI ⟨o1, x1⟩ ⟨o1, x1⟩
            rw [decide_eq_true rfl] at hq
            dsimp only at hq
            go_wp2_with fail
            go_quiet (fail)
            go_wp2_with fail
            go_roundw
            case rel => exact ⟨j + 1, by omega, by go_num, ⟨_, rfl⟩⟩
            case measure => simp [intOf]; omega
          · have e1 : decide ((j : Int) < (K : Int)) = false := by simp; omega
            have e1' : decide (j < K) = false := by simp; omega
            go_wp2_with fail
            go_meet
            exact ⟨u, rfl⟩
      case rest =>
       obtain ⟨u, rfl⟩ := hcut
       have kk : Below w4.heap.size w4 (w4.drewN u).drew := ((Drawn.drewN w4 u).below _).trans ((Drawn.drewN _ 1).below _)
       go_upto_region 12 with (fail)
       go_cut [121] from 77 to 121 (fun s wx => s = .bool false ∧ Below w4.heap.size w4 wx)
       case rest =>
        clear kk
        obtain ⟨rfl, kk⟩ := hcut
        have z0 := (kk.cell (p := ⟨w.heap.size, 0, none⟩) y1).trans c0
        have z1 := (kk.cell (p := ⟨w.heap.size, 1, none⟩) y1).trans c1
        have z2 := (kk.cell (p := ⟨w.heap.size, 2, none⟩) y1).trans c2
        have z3 := (kk.cell (p := ⟨w.heap.size + 1, 0, none⟩) y2).trans t0
        have z4 := (kk.cell (p := ⟨w.heap.size + 1, 1, none⟩) y2).trans t1
        have z5 := (kk.cell (p := ⟨w.heap.size + 1, 2, none⟩) y2).trans t2
        go_wp2_with fail
        refine (HPa.out _ kk).mono ?_
        rintro e w6 ⟨rfl, hb6⟩
        have kk6 := kk.trans (hb6.mono kk.size)
        have z0 := (kk6.cell (p := ⟨w.heap.size, 0, none⟩) y1).trans c0
        have z1 := (kk6.cell (p := ⟨w.heap.size, 1, none⟩) y1).trans c1
        have z2 := (kk6.cell (p := ⟨w.heap.size, 2, none⟩) y1).trans c2
        have z3 := (kk6.cell (p := ⟨w.heap.size + 1, 0, none⟩) y2).trans t0
        have z4 := (kk6.cell (p := ⟨w.heap.size + 1, 1, none⟩) y2).trans t1
        have z5 := (kk6.cell (p := ⟨w.heap.size + 1, 2, none⟩) y2).trans t2
        go_wp2_with fail
        refine (HPb.out _ kk6).mono ?_
        rintro e w7 ⟨rfl, hb7⟩
        have kk7 := kk6.trans (hb7.mono kk6.size)
        have z0 := (kk7.cell (p := ⟨w.heap.size, 0, none⟩) y1).trans c0
        have z1 := (kk7.cell (p := ⟨w.heap.size, 1, none⟩) y1).trans c1
        have z2 := (kk7.cell (p := ⟨w.heap.size, 2, none⟩) y1).trans c2
        have z3 := (kk7.cell (p := ⟨w.heap.size + 1, 0, none⟩) y2).trans t0
        have z4 := (kk7.cell (p := ⟨w.heap.size + 1, 1, none⟩) y2).trans t1
        have z5 := (kk7.cell (p := ⟨w.heap.size + 1, 2, none⟩) y2).trans t2
        by_cases v1 : E1 = 0
        · have v1' : (E1 == 0) = true := by simpa using v1
          by_cases v2 : E2 = 0
          · have v2' : (E2 == 0) = true := by simpa using v2
            have v3 := HE.out v1 v2
            clear v1 v2
            go_wp2_with fail
            refine (HS1.out _ kk7).mono ?_
            rintro e w8 ⟨rfl, hb8⟩
            have kk8 := kk7.trans (hb8.mono kk7.size)
            have z0 := (kk8.cell (p := ⟨w.heap.size, 0, none⟩) y1).trans c0
            have z1 := (kk8.cell (p := ⟨w.heap.size, 1, none⟩) y1).trans c1
            have z2 := (kk8.cell (p := ⟨w.heap.size, 2, none⟩) y1).trans c2
            go_wp2_with fail
            refine (HAw.out _ kk8).mono ?_
            rintro e w9 ⟨rfl, hb9⟩
            have kk9 := kk8.trans (hb9.mono kk8.size)
            have z0 := (kk9.cell (p := ⟨w.heap.size, 0, none⟩) y1).trans c0
            have z1 := (kk9.cell (p := ⟨w.heap.size, 1, none⟩) y1).trans c1
            have z2 := (kk9.cell (p := ⟨w.heap.size, 2, none⟩) y1).trans c2
            go_wp2_with fail
            refine (HS3.out _ kk9).mono ?_
            rintro e w10 ⟨rfl, hb10⟩
            have kk10 := kk9.trans (hb10.mono kk9.size)
            go_wp2_with fail
            go_ret
            exact ⟨rfl, b4.trans (kk10.mono b4.size)⟩
          · have v2' : (E2 == 0) = false := by simpa using v2
            go_wp2_with fail
            refine (HAw.out _ kk7).mono ?_
            rintro e w9 ⟨rfl, hb9⟩
            have kk9 := kk7.trans (hb9.mono kk7.size)
            have z0 := (kk9.cell (p := ⟨w.heap.size, 0, none⟩) y1).trans c0
            have z1 := (kk9.cell (p := ⟨w.heap.size, 1, none⟩) y1).trans c1
            have z2 := (kk9.cell (p := ⟨w.heap.size, 2, none⟩) y1).trans c2
            go_wp2_with fail
            refine (HS3.out _ kk9).mono ?_
            rintro e w10 ⟨rfl, hb10⟩
            have kk10 := kk9.trans (hb10.mono kk9.size)
            go_wp2_with fail
            go_ret
            exact ⟨rfl, b4.trans (kk10.mono b4.size)⟩
        · have v1' : (E1 == 0) = false := by simpa using v1
          go_wp2_with fail
          refine (HAw.out _ kk7).mono ?_
          rintro e w9 ⟨rfl, hb9⟩
          have kk9 := kk7.trans (hb9.mono kk7.size)
          have z0 := (kk9.cell (p := ⟨w.heap.size, 0, none⟩) y1).trans c0
          have z1 := (kk9.cell (p := ⟨w.heap.size, 1, none⟩) y1).trans c1
          have z2 := (kk9.cell (p := ⟨w.heap.size, 2, none⟩) y1).trans c2
          go_wp2_with fail
          refine (HS3.out _ kk9).mono ?_
          rintro e w10 ⟨rfl, hb10⟩
          have kk10 := kk9.trans (hb10.mono kk9.size)
          go_wp2_with fail
          go_ret
          exact ⟨rfl, b4.trans (kk10.mono b4.size)⟩
       case first =>
        cases X with
        | false =>
          go_wp2_with fail
          rename_i Kb a1 Ka a0 J K9 m1 m0
          have A1 := Lib.hid a1
          have A0 := Lib.hid a0
          have M1 := Lib.hid m1
          have M0 := Lib.hid m0
          clear a1 a0 m1 m0
          refine wp_region_held_drew (S := fun W => W.cell? ⟨w.heap.size, 0, none⟩ = some (.slice A n c) ∧ W.cell? ⟨w.heap.size, 1, none⟩ = some (.int .i64 L) ∧ W.cell? ⟨w.heap.size, 2, none⟩ = some (.slice A' n' c') ∧ W.cell? ⟨w.heap.size + 1, 0, none⟩ = some (.slice D m d) ∧ W.cell? ⟨w.heap.size + 1, 1, none⟩ = some (.int .i64 M) ∧ W.cell? ⟨w.heap.size + 1, 2, none⟩ = some (.slice D' m' d')) (by kernel_rfl) ?_ (fun hHeld => ?_)
          · exact ⟨(kk.cell (p := ⟨w.heap.size, 0, none⟩) y1).trans c0, (kk.cell (p := ⟨w.heap.size, 1, none⟩) y1).trans c1, (kk.cell (p := ⟨w.heap.size, 2, none⟩) y1).trans c2, (kk.cell (p := ⟨w.heap.size + 1, 0, none⟩) y2).trans t0, (kk.cell (p := ⟨w.heap.size + 1, 1, none⟩) y2).trans t1, (kk.cell (p := ⟨w.heap.size + 1, 2, none⟩) y2).trans t2⟩
          refine wpAnyH_take (i := 0) (v := ?_) rfl (by kernel_rfl) (by kernel_rfl) (by kernel_rfl) (fun _ _ _ h => h) ?_ (by assumption) ?_
          rotate_left
          · refine Or.inl ⟨by kernel_rfl, ?_⟩
            intro w hSw
            (try dsimp only at hSw)
            first
              | (go_simp; done)
              | (go_simp; with_reducible rfl)
          try simp only [Act.put, List.setIfInBounds_toArray, List.set_cons_zero, List.set_cons_succ]
          refine wpAnyH_take (i := 1) (v := ?_) rfl (by kernel_rfl) (by kernel_rfl) (by kernel_rfl) (fun _ _ _ h => h) ?_ (by assumption) ?_
          rotate_left
          · refine Or.inl ⟨by kernel_rfl, ?_⟩
            intro w hSw
            (try dsimp only at hSw)
            first
              | (go_simp; done)
              | (go_simp; with_reducible rfl)
          try simp only [Act.put, List.setIfInBounds_toArray, List.set_cons_zero, List.set_cons_succ]
          refine wpAnyH_take (i := 2) (v := undef) rfl (by kernel_rfl) (by kernel_rfl) (by kernel_rfl) (fun _ _ _ h => h) (Or.inr ⟨by kernel_rfl, rfl⟩) (by assumption) ?_
          try simp only [Act.put, List.setIfInBounds_toArray, List.set_cons_zero, List.set_cons_succ]
          refine wpAnyH_take (i := 3) (v := undef) rfl (by kernel_rfl) (by kernel_rfl) (by kernel_rfl) (fun _ _ _ h => h) (Or.inr ⟨by kernel_rfl, rfl⟩) (by assumption) ?_
          try simp only [Act.put, List.setIfInBounds_toArray, List.set_cons_zero, List.set_cons_succ]
          refine wpAnyH_take (i := 4) (v := undef) rfl (by kernel_rfl) (by kernel_rfl) (by kernel_rfl) (fun _ _ _ h => h) (Or.inr ⟨by kernel_rfl, rfl⟩) (by assumption) ?_
          try simp only [Act.put, List.setIfInBounds_toArray, List.set_cons_zero, List.set_cons_succ]
          refine wpAnyH_take (i := 5) (v := undef) rfl (by kernel_rfl) (by kernel_rfl) (by kernel_rfl) (fun _ _ _ h => h) (Or.inr ⟨by kernel_rfl, rfl⟩) (by assumption) ?_
          try simp only [Act.put, List.setIfInBounds_toArray, List.set_cons_zero, List.set_cons_succ]
          refine wpAnyH_take (i := 6) (v := undef) rfl (by kernel_rfl) (by kernel_rfl) (by kernel_rfl) (fun _ _ _ h => h) (Or.inr ⟨by kernel_rfl, rfl⟩) (by assumption) ?_
          try simp only [Act.put, List.setIfInBounds_toArray, List.set_cons_zero, List.set_cons_succ]
          refine wpAnyH_take (i := 7) (v := ?_) rfl (by kernel_rfl) (by kernel_rfl) (by kernel_rfl) (fun _ _ _ h => h) ?_ (by assumption) ?_
          rotate_left
          · refine Or.inl ⟨by kernel_rfl, ?_⟩
            intro w hSw
            (try dsimp only at hSw)
            first
              | (go_simp; done)
              | (go_simp; with_reducible rfl)
          try simp only [Act.put, List.setIfInBounds_toArray, List.set_cons_zero, List.set_cons_succ]
          refine wpAnyH_take (i := 8) (v := ?_) rfl (by kernel_rfl) (by kernel_rfl) (by kernel_rfl) (fun _ _ _ h => h) ?_ (by assumption) ?_
          rotate_left
          · refine Or.inl ⟨by kernel_rfl, ?_⟩
            intro w hSw
            (try dsimp only at hSw)
            first
              | (go_simp; done)
              | (go_simp; with_reducible rfl)
          try simp only [Act.put, List.setIfInBounds_toArray, List.set_cons_zero, List.set_cons_succ]
          refine wpAnyH_take (i := 9) (v := undef) rfl (by kernel_rfl) (by kernel_rfl) (by kernel_rfl) (fun _ _ _ h => h) (Or.inr ⟨by kernel_rfl, rfl⟩) (by assumption) ?_
          try simp only [Act.put, List.setIfInBounds_toArray, List.set_cons_zero, List.set_cons_succ]
          refine wpAnyH_take (i := 10) (v := undef) rfl (by kernel_rfl) (by kernel_rfl) (by kernel_rfl) (fun _ _ _ h => h) (Or.inr ⟨by kernel_rfl, rfl⟩) (by assumption) ?_
          try simp only [Act.put, List.setIfInBounds_toArray, List.set_cons_zero, List.set_cons_succ]
          refine wpAnyH_take (i := 11) (v := undef) rfl (by kernel_rfl) (by kernel_rfl) (by kernel_rfl) (fun _ _ _ h => h) (Or.inr ⟨by kernel_rfl, rfl⟩) (by assumption) ?_
          try simp only [Act.put, List.setIfInBounds_toArray, List.set_cons_zero, List.set_cons_succ]
          refine wpAnyH_take (i := 12) (v := undef) rfl (by kernel_rfl) (by kernel_rfl) (by kernel_rfl) (fun _ _ _ h => h) (Or.inr ⟨by kernel_rfl, rfl⟩) (by assumption) ?_
          try simp only [Act.put, List.setIfInBounds_toArray, List.set_cons_zero, List.set_cons_succ]
          refine wpAnyH_take (i := 13) (v := undef) rfl (by kernel_rfl) (by kernel_rfl) (by kernel_rfl) (fun _ _ _ h => h) (Or.inr ⟨by kernel_rfl, rfl⟩) (by assumption) ?_
          try simp only [Act.put, List.setIfInBounds_toArray, List.set_cons_zero, List.set_cons_succ]
          refine wpAnyH_take (i := 14) (v := ?_) rfl (by kernel_rfl) (by kernel_rfl) (by kernel_rfl) (fun _ _ _ h => h) ?_ (by assumption) ?_
          rotate_left
          · refine Or.inl ⟨by kernel_rfl, ?_⟩
            intro w hSw
            (try dsimp only at hSw)
            first
              | (go_simp; done)
              | (go_simp; with_reducible rfl)
          try simp only [Act.put, List.setIfInBounds_toArray, List.set_cons_zero, List.set_cons_succ]
          refine wpAnyH_take (i := 15) (v := ?_) rfl (by kernel_rfl) (by kernel_rfl) (by kernel_rfl) (fun _ _ _ h => h) ?_ (by assumption) ?_
          rotate_left
          · refine Or.inl ⟨by kernel_rfl, ?_⟩
            intro w hSw
            (try dsimp only at hSw)
            first
              | (go_simp; done)
              | (go_simp; with_reducible rfl)
          try simp only [Act.put, List.setIfInBounds_toArray, List.set_cons_zero, List.set_cons_succ]
          refine wpAnyH_take (i := 16) (v := undef) rfl (by kernel_rfl) (by kernel_rfl) (by kernel_rfl) (fun _ _ _ h => h) (Or.inr ⟨by kernel_rfl, rfl⟩) (by assumption) ?_
          try simp only [Act.put, List.setIfInBounds_toArray, List.set_cons_zero, List.set_cons_succ]
          refine wpAnyH_take (i := 17) (v := undef) rfl (by kernel_rfl) (by kernel_rfl) (by kernel_rfl) (fun _ _ _ h => h) (Or.inr ⟨by kernel_rfl, rfl⟩) (by assumption) ?_
          try simp only [Act.put, List.setIfInBounds_toArray, List.set_cons_zero, List.set_cons_succ]
          refine wpAnyH_take (i := 18) (v := undef) rfl (by kernel_rfl) (by kernel_rfl) (by kernel_rfl) (fun _ _ _ h => h) (Or.inr ⟨by kernel_rfl, rfl⟩) (by assumption) ?_
          try simp only [Act.put, List.setIfInBounds_toArray, List.set_cons_zero, List.set_cons_succ]
          refine wpAnyH_take (i := 19) (v := undef) rfl (by kernel_rfl) (by kernel_rfl) (by kernel_rfl) (fun _ _ _ h => h) (Or.inr ⟨by kernel_rfl, rfl⟩) (by assumption) ?_
          try simp only [Act.put, List.setIfInBounds_toArray, List.set_cons_zero, List.set_cons_succ]
          refine wpAnyH_take (i := 20) (v := undef) rfl (by kernel_rfl) (by kernel_rfl) (by kernel_rfl) (fun _ _ _ h => h) (Or.inr ⟨by kernel_rfl, rfl⟩) (by assumption) ?_
          try simp only [Act.put, List.setIfInBounds_toArray, List.set_cons_zero, List.set_cons_succ]
          refine wpAnyH_take (i := 21) (v := undef) rfl (by kernel_rfl) (by kernel_rfl) (by kernel_rfl) (fun _ _ _ h => h) (Or.inr ⟨by kernel_rfl, rfl⟩) (by assumption) ?_
          try simp only [Act.put, List.setIfInBounds_toArray, List.set_cons_zero, List.set_cons_succ]
          refine wpAnyH_take (i := 22) (v := undef) rfl (by kernel_rfl) (by kernel_rfl) (by kernel_rfl) (fun _ _ _ h => h) (Or.inr ⟨by kernel_rfl, rfl⟩) (by assumption) ?_
          try simp only [Act.put, List.setIfInBounds_toArray, List.set_cons_zero, List.set_cons_succ]
          refine wpAnyH_take (i := 23) (v := undef) rfl (by kernel_rfl) (by kernel_rfl) (by kernel_rfl) (fun _ _ _ h => h) (Or.inr ⟨by kernel_rfl, rfl⟩) (by assumption) ?_
          try simp only [Act.put, List.setIfInBounds_toArray, List.set_cons_zero, List.set_cons_succ]
          refine wpAnyH_take (i := 24) (v := undef) rfl (by kernel_rfl) (by kernel_rfl) (by kernel_rfl) (fun _ _ _ h => h) (Or.inr ⟨by kernel_rfl, rfl⟩) (by assumption) ?_
          try simp only [Act.put, List.setIfInBounds_toArray, List.set_cons_zero, List.set_cons_succ]
          refine wpAnyH_take (i := 25) (v := undef) rfl (by kernel_rfl) (by kernel_rfl) (by kernel_rfl) (fun _ _ _ h => h) (Or.inr ⟨by kernel_rfl, rfl⟩) (by assumption) ?_
          try simp only [Act.put, List.setIfInBounds_toArray, List.set_cons_zero, List.set_cons_succ]
          refine wpAnyH_take (i := 26) (v := undef) rfl (by kernel_rfl) (by kernel_rfl) (by kernel_rfl) (fun _ _ _ h => h) (Or.inr ⟨by kernel_rfl, rfl⟩) (by assumption) ?_
          try simp only [Act.put, List.setIfInBounds_toArray, List.set_cons_zero, List.set_cons_succ]
          refine wpAnyH_take (i := 27) (v := ?_) rfl (by kernel_rfl) (by kernel_rfl) (by kernel_rfl) (fun _ _ _ h => h) ?_ (by assumption) ?_
          rotate_left
          · refine Or.inl ⟨by kernel_rfl, ?_⟩
            intro w hSw
            (try dsimp only at hSw)
            first
              | (go_simp; done)
              | (go_simp; with_reducible rfl)
          try simp only [Act.put, List.setIfInBounds_toArray, List.set_cons_zero, List.set_cons_succ]
          refine wpAnyH_take (i := 28) (v := ?_) rfl (by kernel_rfl) (by kernel_rfl) (by kernel_rfl) (fun _ _ _ h => h) ?_ (by assumption) ?_
          rotate_left
          · refine Or.inl ⟨by kernel_rfl, ?_⟩
            intro w hSw
            (try dsimp only at hSw)
            first
              | (go_simp; done)
              | (go_simp; with_reducible rfl)
          try simp only [Act.put, List.setIfInBounds_toArray, List.set_cons_zero, List.set_cons_succ]
          refine wpAnyH_take (i := 29) (v := ?_) rfl (by kernel_rfl) (by kernel_rfl) (by kernel_rfl) (fun _ _ _ h => h) ?_ (by assumption) ?_
          rotate_left
          · refine Or.inl ⟨by kernel_rfl, ?_⟩
            intro w hSw
            (try dsimp only at hSw)
            first
              | (go_simp; done)
              | (go_simp; with_reducible rfl)
          try simp only [Act.put, List.setIfInBounds_toArray, List.set_cons_zero, List.set_cons_succ]
          refine wpAnyH_take (i := 30) (v := ?_) rfl (by kernel_rfl) (by kernel_rfl) (by kernel_rfl) (fun _ _ _ h => h) ?_ (by assumption) ?_
          rotate_left
          · refine Or.inl ⟨by kernel_rfl, ?_⟩
            intro w hSw
            (try dsimp only at hSw)
            first
              | (go_simp; done)
              | (go_simp; with_reducible rfl)
          try simp only [Act.put, List.setIfInBounds_toArray, List.set_cons_zero, List.set_cons_succ]
          refine wpAnyH_take (i := 32) (v := ?_) rfl (by kernel_rfl) (by kernel_rfl) (by kernel_rfl) (fun _ _ _ h => h) ?_ (by assumption) ?_
          rotate_left
          · refine Or.inl ⟨by kernel_rfl, ?_⟩
            intro w hSw
            (try dsimp only at hSw)
            first
              | (go_simp; done)
              | (go_simp; with_reducible rfl)
          try simp only [Act.put, List.setIfInBounds_toArray, List.set_cons_zero, List.set_cons_succ]
          refine wpAnyH_take (i := 33) (v := ?_) rfl (by kernel_rfl) (by kernel_rfl) (by kernel_rfl) (fun _ _ _ h => h) ?_ (by assumption) ?_
          rotate_left
          · refine Or.inl ⟨by kernel_rfl, ?_⟩
            intro w hSw
            (try dsimp only at hSw)
            first
              | (go_simp; done)
              | (go_simp; with_reducible rfl)
          try simp only [Act.put, List.setIfInBounds_toArray, List.set_cons_zero, List.set_cons_succ]
          refine wpAnyH_ready (rs := [31]) (by kernel_rfl) (by simp) ?_
          refine AllReadyH.cons rfl (fun Kq hKq => ?_) AllReadyH.nil
          go_simp
          refine (HS1.out _ kk).mono ?_
          rintro e w5 ⟨rfl, hb5⟩
          replace kk := kk.trans (hb5.mono kk.size)
          clear hb5
          go_wp2_with fail
          refine hKq.out _ _ ?_ (fun hHeld => ?_)
          · exact ⟨(kk.cell (p := ⟨w.heap.size, 0, none⟩) y1).trans c0, (kk.cell (p := ⟨w.heap.size, 1, none⟩) y1).trans c1, (kk.cell (p := ⟨w.heap.size, 2, none⟩) y1).trans c2, (kk.cell (p := ⟨w.heap.size + 1, 0, none⟩) y2).trans t0, (kk.cell (p := ⟨w.heap.size + 1, 1, none⟩) y2).trans t1, (kk.cell (p := ⟨w.heap.size + 1, 2, none⟩) y2).trans t2⟩
          clear hKq Kq
          try simp only [Act.put, List.setIfInBounds_toArray, List.set_cons_zero, List.set_cons_succ]
          refine wpAnyH_ready (rs := [34]) (by kernel_rfl) (by simp) ?_
          refine AllReadyH.cons rfl (fun Kq hKq => ?_) AllReadyH.nil
          go_simp
          refine (HS2.out _ kk).mono ?_
          rintro e w5 ⟨rfl, hb5⟩
          replace kk := kk.trans (hb5.mono kk.size)
          clear hb5
          go_wp2_with fail
          refine hKq.out _ _ ?_ (fun hHeld => ?_)
          · exact ⟨(kk.cell (p := ⟨w.heap.size, 0, none⟩) y1).trans c0, (kk.cell (p := ⟨w.heap.size, 1, none⟩) y1).trans c1, (kk.cell (p := ⟨w.heap.size, 2, none⟩) y1).trans c2, (kk.cell (p := ⟨w.heap.size + 1, 0, none⟩) y2).trans t0, (kk.cell (p := ⟨w.heap.size + 1, 1, none⟩) y2).trans t1, (kk.cell (p := ⟨w.heap.size + 1, 2, none⟩) y2).trans t2⟩
          clear hKq Kq
          try simp only [Act.put, List.setIfInBounds_toArray, List.set_cons_zero, List.set_cons_succ]
          refine wpAnyH_take (i := 35) (v := ?_) rfl (by kernel_rfl) (by kernel_rfl) (by kernel_rfl) (fun _ _ _ h => h) ?_ (by assumption) ?_
          rotate_left
          · refine Or.inl ⟨by kernel_rfl, ?_⟩
            intro w hSw
            (try dsimp only at hSw)
            first
              | (go_simp; done)
              | (go_simp; with_reducible rfl)
          try simp only [Act.put, List.setIfInBounds_toArray, List.set_cons_zero, List.set_cons_succ]
          refine wpAnyH_take (i := 36) (v := ?_) rfl (by kernel_rfl) (by kernel_rfl) (by kernel_rfl) (fun _ _ _ h => h) ?_ (by assumption) ?_
          rotate_left
          · refine Or.inl ⟨by kernel_rfl, ?_⟩
            intro w hSw
            (try dsimp only at hSw)
            first
              | (go_simp; done)
              | (go_simp; with_reducible rfl)
          try simp only [Act.put, List.setIfInBounds_toArray, List.set_cons_zero, List.set_cons_succ]
          refine wpAnyH_take (i := 37) (v := ?_) rfl (by kernel_rfl) (by kernel_rfl) (by kernel_rfl) (fun _ _ _ h => h) ?_ (by assumption) ?_
          rotate_left
          · refine Or.inl ⟨by kernel_rfl, ?_⟩
            intro w hSw
            (try dsimp only at hSw)
            first
              | (go_simp; done)
              | (go_simp; with_reducible rfl)
          try simp only [Act.put, List.setIfInBounds_toArray, List.set_cons_zero, List.set_cons_succ]
          refine wpAnyH_take (i := 38) (v := ?_) rfl (by kernel_rfl) (by kernel_rfl) (by kernel_rfl) (fun _ _ _ h => h) ?_ (by assumption) ?_
          rotate_left
          · refine Or.inl ⟨by kernel_rfl, ?_⟩
            intro w hSw
            (try dsimp only at hSw)
            first
              | (go_simp; done)
              | (go_simp; with_reducible rfl)
          try simp only [Act.put, List.setIfInBounds_toArray, List.set_cons_zero, List.set_cons_succ]
          refine wpAnyH_take (i := 39) (v := ?_) rfl (by kernel_rfl) (by kernel_rfl) (by kernel_rfl) (fun _ _ _ h => h) ?_ (by assumption) ?_
          rotate_left
          · refine Or.inl ⟨by kernel_rfl, ?_⟩
            intro w hSw
            (try dsimp only at hSw)
            first
              | (go_simp; done)
              | (go_simp; with_reducible rfl)
          try simp only [Act.put, List.setIfInBounds_toArray, List.set_cons_zero, List.set_cons_succ]
          refine wpAnyH_take (i := 40) (v := undef) rfl (by kernel_rfl) (by kernel_rfl) (by kernel_rfl) (fun _ _ _ h => h) (Or.inr ⟨by kernel_rfl, rfl⟩) (by assumption) ?_
          try simp only [Act.put, List.setIfInBounds_toArray, List.set_cons_zero, List.set_cons_succ]
          refine wpAnyH_take (i := 41) (v := undef) rfl (by kernel_rfl) (by kernel_rfl) (by kernel_rfl) (fun _ _ _ h => h) (Or.inr ⟨by kernel_rfl, rfl⟩) (by assumption) ?_
          try simp only [Act.put, List.setIfInBounds_toArray, List.set_cons_zero, List.set_cons_succ]
          refine wpAnyH_take (i := 42) (v := undef) rfl (by kernel_rfl) (by kernel_rfl) (by kernel_rfl) (fun _ _ _ h => h) (Or.inr ⟨by kernel_rfl, rfl⟩) (by assumption) ?_
          try simp only [Act.put, List.setIfInBounds_toArray, List.set_cons_zero, List.set_cons_succ]
          refine wpAnyH_take (i := 43) (v := ?_) rfl (by kernel_rfl) (by kernel_rfl) (by kernel_rfl) (fun _ _ _ h => h) ?_ (by assumption) ?_
          rotate_left
          · refine Or.inl ⟨by kernel_rfl, ?_⟩
            intro w hSw
            (try dsimp only at hSw)
            first
              | (go_simp; done)
              | (go_simp; with_reducible rfl)
          try simp only [Act.put, List.setIfInBounds_toArray, List.set_cons_zero, List.set_cons_succ]
          refine wpAnyH_take (i := 44) (v := ?_) rfl (by kernel_rfl) (by kernel_rfl) (by kernel_rfl) (fun _ _ _ h => h) ?_ (by assumption) ?_
          rotate_left
          · refine Or.inl ⟨by kernel_rfl, ?_⟩
            intro w hSw
            (try dsimp only at hSw)
            first
              | (go_simp; done)
              | (go_simp; with_reducible rfl)
          try simp only [Act.put, List.setIfInBounds_toArray, List.set_cons_zero, List.set_cons_succ]
          refine wpAnyH_done (by kernel_rfl) ?_ _
          have a1 := A1.out
          have a0 := A0.out
          have m1 := M1.out
          have m0 := M0.out
          clear A1 A0 M1 M0
          try simp only [Act.put, List.getElem_toArray, List.getElem_cons_succ, List.getElem_cons_zero, List.setIfInBounds_toArray, List.set_cons_zero, List.set_cons_succ]
          go_wp2_with fail
          first
            | (go_meet; exact ⟨rfl, kk⟩)
            | (rename_i f1 d1 h1 f2 d2 h2
               have e1 : d1 = 121 := (Option.some.inj h1).symm
               have e2 : d2 = 120 := (Option.some.inj h2).symm
               subst e1; subst e2
               try simp only [Act.put, List.setIfInBounds_toArray, List.set_cons_zero, List.set_cons_succ]
               go_meet
               exact ⟨rfl, kk⟩)
        | true =>
         have hsf : sb = false := HK3.out rfl
         subst hsf
         by_cases g1 : K < n'
         · have e2 : decide ((K : Int) < (n' : Int)) = true := by simp; omega
           have e2' : decide (K < n') = true := by simp; omega
           by_cases g2 : K < m'
           · have e3 : decide ((K : Int) < (m' : Int)) = true := by simp; omega
             have e3' : decide (K < m') = true := by simp; omega
             obtain ⟨b, off, rfl, hbl, hcell⟩ := hx4.code.get g1
             obtain ⟨b2, off2, rfl, hbl2, hcell2⟩ := hy4.code.get g2
             obtain ⟨q1, q2⟩ := hcell K g1
             obtain ⟨q3, q4⟩ := hcell2 K g2
             have hne := HK2.out (by first | exact trivial | rfl) g1 g2
             clear hcell hcell2 HK2
             obtain ⟨x, hxe⟩ : ∃ x, x = gI p.code K := ⟨_, rfl⟩
             obtain ⟨y, hye⟩ : ∃ y, y = gI q.code K := ⟨_, rfl⟩
             rw [← hxe] at q1 q2 hne
             rw [← hye] at q3 q4 hne
             clear hxe hye
             obtain ⟨o1, x1⟩ := x
             obtain ⟨o2, x2⟩ := y
             dsimp only at q1 q2 q3 q4
             have u1 := stI
             have u2 := utI
             have u3 := gdI
             have hq := eqI ⟨o1, x1⟩ ⟨o2, x2⟩
             rw [decide_eq_false hne] at hq
             dsimp only at hq
             clear hne
             go_wp2_with fail
             rename_i Kb a1 Ka a0 J K9 m1 m0
             have A1 := Lib.hid a1
             have A0 := Lib.hid a0
             have M1 := Lib.hid m1
             have M0 := Lib.hid m0
             clear a1 a0 m1 m0
             refine wp_region_held_drew (S := fun W => W.cell? ⟨w.heap.size, 0, none⟩ = some (.slice A n c) ∧ W.cell? ⟨w.heap.size, 1, none⟩ = some (.int .i64 L) ∧ W.cell? ⟨w.heap.size, 2, none⟩ = some (.slice (some ⟨b, off, none⟩) n' c') ∧ W.cell? ⟨w.heap.size + 1, 0, none⟩ = some (.slice D m d) ∧ W.cell? ⟨w.heap.size + 1, 1, none⟩ = some (.int .i64 M) ∧ W.cell? ⟨w.heap.size + 1, 2, none⟩ = some (.slice (some ⟨b2, off2, none⟩) m' d') ∧ W.cell? ⟨b, off + K * 2, none⟩ = some (.int .i64 o1) ∧ W.cell? ⟨b, off + K * 2 + 1, none⟩ = some (.int .u32 x1) ∧ W.cell? ⟨b2, off2 + K * 2, none⟩ = some (.int .i64 o2) ∧ W.cell? ⟨b2, off2 + K * 2 + 1, none⟩ = some (.int .u32 x2)) (by kernel_rfl) ?_ (fun hHeld => ?_)
             · exact ⟨(kk.cell (p := ⟨w.heap.size, 0, none⟩) y1).trans c0, (kk.cell (p := ⟨w.heap.size, 1, none⟩) y1).trans c1, (kk.cell (p := ⟨w.heap.size, 2, none⟩) y1).trans c2, (kk.cell (p := ⟨w.heap.size + 1, 0, none⟩) y2).trans t0, (kk.cell (p := ⟨w.heap.size + 1, 1, none⟩) y2).trans t1, (kk.cell (p := ⟨w.heap.size + 1, 2, none⟩) y2).trans t2, (kk.cell (p := ⟨b, off + K * 2, none⟩) hbl).trans q1, (kk.cell (p := ⟨b, off + K * 2 + 1, none⟩) hbl).trans q2, (kk.cell (p := ⟨b2, off2 + K * 2, none⟩) hbl2).trans q3, (kk.cell (p := ⟨b2, off2 + K * 2 + 1, none⟩) hbl2).trans q4⟩
             refine wpAnyH_take (i := 0) (v := ?_) rfl (by kernel_rfl) (by kernel_rfl) (by kernel_rfl) (fun _ _ _ h => h) ?_ (by assumption) ?_
             rotate_left
             · refine Or.inl ⟨by kernel_rfl, ?_⟩
               intro w hSw
               (try dsimp only at hSw)
               first
                 | (go_simp; done)
                 | (go_simp; with_reducible rfl)
             try simp only [Act.put, List.setIfInBounds_toArray, List.set_cons_zero, List.set_cons_succ]
             refine wpAnyH_take (i := 1) (v := ?_) rfl (by kernel_rfl) (by kernel_rfl) (by kernel_rfl) (fun _ _ _ h => h) ?_ (by assumption) ?_
             rotate_left
             · refine Or.inl ⟨by kernel_rfl, ?_⟩
               intro w hSw
               (try dsimp only at hSw)
               first
                 | (go_simp; done)
                 | (go_simp; with_reducible rfl)
             try simp only [Act.put, List.setIfInBounds_toArray, List.set_cons_zero, List.set_cons_succ]
             refine wpAnyH_take (i := 2) (v := ?_) rfl (by kernel_rfl) (by kernel_rfl) (by kernel_rfl) (fun _ _ _ h => h) ?_ (by assumption) ?_
             rotate_left
             · refine Or.inl ⟨by kernel_rfl, ?_⟩
               intro w hSw
               (try dsimp only at hSw)
               first
                 | (go_simp; done)
                 | (go_simp; with_reducible rfl)
             try simp only [Act.put, List.setIfInBounds_toArray, List.set_cons_zero, List.set_cons_succ]
             refine wpAnyH_take (i := 3) (v := ?_) rfl (by kernel_rfl) (by kernel_rfl) (by kernel_rfl) (fun _ _ _ h => h) ?_ (by assumption) ?_
             rotate_left
             · refine Or.inl ⟨by kernel_rfl, ?_⟩
               intro w hSw
               (try dsimp only at hSw)
               first
                 | (go_simp; done)
                 | (go_simp; with_reducible rfl)
             try simp only [Act.put, List.setIfInBounds_toArray, List.set_cons_zero, List.set_cons_succ]
             refine wpAnyH_take (i := 4) (v := ?_) rfl (by kernel_rfl) (by kernel_rfl) (by kernel_rfl) (fun _ _ _ h => h) ?_ (by assumption) ?_
             rotate_left
             · refine Or.inl ⟨by kernel_rfl, ?_⟩
               intro w hSw
               (try dsimp only at hSw)
               first
                 | (go_simp; done)
                 | (go_simp; with_reducible rfl)
             try simp only [Act.put, List.setIfInBounds_toArray, List.set_cons_zero, List.set_cons_succ]
             refine wpAnyH_take (i := 5) (v := ?_) rfl (by kernel_rfl) (by kernel_rfl) (by kernel_rfl) (fun _ _ _ h => h) ?_ (by assumption) ?_
             rotate_left
             · refine Or.inl ⟨by kernel_rfl, ?_⟩
               intro w hSw
               (try dsimp only at hSw)
               first
                 | (go_simp; done)
                 | (go_simp; with_reducible rfl)
             try simp only [Act.put, List.setIfInBounds_toArray, List.set_cons_zero, List.set_cons_succ]
             refine wpAnyH_take (i := 6) (v := ?_) rfl (by kernel_rfl) (by kernel_rfl) (by kernel_rfl) (fun _ _ _ h => h) ?_ (by assumption) ?_
             rotate_left
             · refine Or.inl ⟨by kernel_rfl, ?_⟩
               intro w hSw
               (try dsimp only at hSw)
               first
                 | (go_simp; done)
                 | (go_simp; with_reducible rfl)
             try simp only [Act.put, List.setIfInBounds_toArray, List.set_cons_zero, List.set_cons_succ]
             refine wpAnyH_take (i := 7) (v := ?_) rfl (by kernel_rfl) (by kernel_rfl) (by kernel_rfl) (fun _ _ _ h => h) ?_ (by assumption) ?_
             rotate_left
             · refine Or.inl ⟨by kernel_rfl, ?_⟩
               intro w hSw
               (try dsimp only at hSw)
               first
                 | (go_simp; done)
                 | (go_simp; with_reducible rfl)
             try simp only [Act.put, List.setIfInBounds_toArray, List.set_cons_zero, List.set_cons_succ]
             refine wpAnyH_take (i := 8) (v := ?_) rfl (by kernel_rfl) (by kernel_rfl) (by kernel_rfl) (fun _ _ _ h => h) ?_ (by assumption) ?_
             rotate_left
             · refine Or.inl ⟨by kernel_rfl, ?_⟩
               intro w hSw
               (try dsimp only at hSw)
               first
                 | (go_simp; done)
                 | (go_simp; with_reducible rfl)
             try simp only [Act.put, List.setIfInBounds_toArray, List.set_cons_zero, List.set_cons_succ]
             refine wpAnyH_take (i := 9) (v := ?_) rfl (by kernel_rfl) (by kernel_rfl) (by kernel_rfl) (fun _ _ _ h => h) ?_ (by assumption) ?_
             rotate_left
             · refine Or.inl ⟨by kernel_rfl, ?_⟩
               intro w hSw
               (try dsimp only at hSw)
               first
                 | (go_simp; done)
                 | (go_simp; with_reducible rfl)
             try simp only [Act.put, List.setIfInBounds_toArray, List.set_cons_zero, List.set_cons_succ]
             refine wpAnyH_take (i := 10) (v := ?_) rfl (by kernel_rfl) (by kernel_rfl) (by kernel_rfl) (fun _ _ _ h => h) ?_ (by assumption) ?_
             rotate_left
             · refine Or.inl ⟨by kernel_rfl, ?_⟩
               intro w hSw
               (try dsimp only at hSw)
               first
                 | (go_simp; done)
                 | (go_simp; with_reducible rfl)
             try simp only [Act.put, List.setIfInBounds_toArray, List.set_cons_zero, List.set_cons_succ]
             refine wpAnyH_take (i := 11) (v := ?_) rfl (by kernel_rfl) (by kernel_rfl) (by kernel_rfl) (fun _ _ _ h => h) ?_ (by assumption) ?_
             rotate_left
             · refine Or.inl ⟨by kernel_rfl, ?_⟩
               intro w hSw
               (try dsimp only at hSw)
               first
                 | (go_simp; done)
                 | (go_simp; with_reducible rfl)
             try simp only [Act.put, List.setIfInBounds_toArray, List.set_cons_zero, List.set_cons_succ]
             refine wpAnyH_take (i := 12) (v := ?_) rfl (by kernel_rfl) (by kernel_rfl) (by kernel_rfl) (fun _ _ _ h => h) ?_ (by assumption) ?_
             rotate_left
             · refine Or.inl ⟨by kernel_rfl, ?_⟩
               intro w hSw
               (try dsimp only at hSw)
               first
                 | (go_simp; done)
                 | (go_simp; with_reducible rfl)
             try simp only [Act.put, List.setIfInBounds_toArray, List.set_cons_zero, List.set_cons_succ]
             refine wpAnyH_take (i := 13) (v := ?_) rfl (by kernel_rfl) (by kernel_rfl) (by kernel_rfl) (fun _ _ _ h => h) ?_ (by assumption) ?_
             rotate_left
             · refine Or.inl ⟨by kernel_rfl, ?_⟩
               intro w hSw
               (try dsimp only at hSw)
               first
                 | (go_simp; done)
                 | (go_simp; with_reducible rfl)
             try simp only [Act.put, List.setIfInBounds_toArray, List.set_cons_zero, List.set_cons_succ]
             refine wpAnyH_take (i := 14) (v := ?_) rfl (by kernel_rfl) (by kernel_rfl) (by kernel_rfl) (fun _ _ _ h => h) ?_ (by assumption) ?_
             rotate_left
             · refine Or.inl ⟨by kernel_rfl, ?_⟩
               intro w hSw
               (try dsimp only at hSw)
               first
                 | (go_simp; done)
                 | (go_simp; with_reducible rfl)
             try simp only [Act.put, List.setIfInBounds_toArray, List.set_cons_zero, List.set_cons_succ]
             refine wpAnyH_take (i := 15) (v := ?_) rfl (by kernel_rfl) (by kernel_rfl) (by kernel_rfl) (fun _ _ _ h => h) ?_ (by assumption) ?_
             rotate_left
             · refine Or.inl ⟨by kernel_rfl, ?_⟩
               intro w hSw
               (try dsimp only at hSw)
               first
                 | (go_simp; done)
                 | (go_simp; with_reducible rfl)
             try simp only [Act.put, List.setIfInBounds_toArray, List.set_cons_zero, List.set_cons_succ]
             refine wpAnyH_take (i := 16) (v := ?_) rfl (by kernel_rfl) (by kernel_rfl) (by kernel_rfl) (fun _ _ _ h => h) ?_ (by assumption) ?_
             rotate_left
             · refine Or.inl ⟨by kernel_rfl, ?_⟩
               intro w hSw
               (try dsimp only at hSw)
               first
                 | (go_simp; done)
                 | (go_simp; with_reducible rfl)
             try simp only [Act.put, List.setIfInBounds_toArray, List.set_cons_zero, List.set_cons_succ]
             refine wpAnyH_take (i := 17) (v := ?_) rfl (by kernel_rfl) (by kernel_rfl) (by kernel_rfl) (fun _ _ _ h => h) ?_ (by assumption) ?_
             rotate_left
             · refine Or.inl ⟨by kernel_rfl, ?_⟩
               intro w hSw
               (try dsimp only at hSw)
               first
                 | (go_simp; done)
                 | (go_simp; with_reducible rfl)
             try simp only [Act.put, List.setIfInBounds_toArray, List.set_cons_zero, List.set_cons_succ]
             refine wpAnyH_take (i := 18) (v := ?_) rfl (by kernel_rfl) (by kernel_rfl) (by kernel_rfl) (fun _ _ _ h => h) ?_ (by assumption) ?_
             rotate_left
             · refine Or.inl ⟨by kernel_rfl, ?_⟩
               intro w hSw
               (try dsimp only at hSw)
               first
                 | (go_simp; done)
                 | (go_simp; with_reducible rfl)
             try simp only [Act.put, List.setIfInBounds_toArray, List.set_cons_zero, List.set_cons_succ]
             refine wpAnyH_take (i := 19) (v := ?_) rfl (by kernel_rfl) (by kernel_rfl) (by kernel_rfl) (fun _ _ _ h => h) ?_ (by assumption) ?_
             rotate_left
             · refine Or.inl ⟨by kernel_rfl, ?_⟩
               intro w hSw
               (try dsimp only at hSw)
               first
                 | (go_simp; done)
                 | (go_simp; with_reducible rfl)
             try simp only [Act.put, List.setIfInBounds_toArray, List.set_cons_zero, List.set_cons_succ]
             refine wpAnyH_take (i := 20) (v := ?_) rfl (by kernel_rfl) (by kernel_rfl) (by kernel_rfl) (fun _ _ _ h => h) ?_ (by assumption) ?_
             rotate_left
             · refine Or.inl ⟨by kernel_rfl, ?_⟩
               intro w hSw
               (try dsimp only at hSw)
               first
                 | (go_simp; done)
                 | (go_simp; with_reducible rfl)
             try simp only [Act.put, List.setIfInBounds_toArray, List.set_cons_zero, List.set_cons_succ]
             refine wpAnyH_take (i := 21) (v := ?_) rfl (by kernel_rfl) (by kernel_rfl) (by kernel_rfl) (fun _ _ _ h => h) ?_ (by assumption) ?_
             rotate_left
             · refine Or.inl ⟨by kernel_rfl, ?_⟩
               intro w hSw
               (try dsimp only at hSw)
               first
                 | (go_simp; done)
                 | (go_simp; with_reducible rfl)
             try simp only [Act.put, List.setIfInBounds_toArray, List.set_cons_zero, List.set_cons_succ]
             refine wpAnyH_take (i := 22) (v := ?_) rfl (by kernel_rfl) (by kernel_rfl) (by kernel_rfl) (fun _ _ _ h => h) ?_ (by assumption) ?_
             rotate_left
             · refine Or.inl ⟨by kernel_rfl, ?_⟩
               intro w hSw
               (try dsimp only at hSw)
               first
                 | (go_simp; done)
                 | (go_simp; with_reducible rfl)
             try simp only [Act.put, List.setIfInBounds_toArray, List.set_cons_zero, List.set_cons_succ]
             refine wpAnyH_take (i := 23) (v := ?_) rfl (by kernel_rfl) (by kernel_rfl) (by kernel_rfl) (fun _ _ _ h => h) ?_ (by assumption) ?_
             rotate_left
             · refine Or.inl ⟨by kernel_rfl, ?_⟩
               intro w hSw
               (try dsimp only at hSw)
               first
                 | (go_simp; done)
                 | (go_simp; with_reducible rfl)
             try simp only [Act.put, List.setIfInBounds_toArray, List.set_cons_zero, List.set_cons_succ]
             refine wpAnyH_take (i := 24) (v := ?_) rfl (by kernel_rfl) (by kernel_rfl) (by kernel_rfl) (fun _ _ _ h => h) ?_ (by assumption) ?_
             rotate_left
             · refine Or.inl ⟨by kernel_rfl, ?_⟩
               intro w hSw
               (try dsimp only at hSw)
               first
                 | (go_simp; done)
                 | (go_simp; with_reducible rfl)
             try simp only [Act.put, List.setIfInBounds_toArray, List.set_cons_zero, List.set_cons_succ]
             refine wpAnyH_take (i := 25) (v := ?_) rfl (by kernel_rfl) (by kernel_rfl) (by kernel_rfl) (fun _ _ _ h => h) ?_ (by assumption) ?_
             rotate_left
             · refine Or.inl ⟨by kernel_rfl, ?_⟩
               intro w hSw
               (try dsimp only at hSw)
               first
                 | (go_simp; done)
                 | (go_simp; with_reducible rfl)
             try simp only [Act.put, List.setIfInBounds_toArray, List.set_cons_zero, List.set_cons_succ]
             refine wpAnyH_take (i := 26) (v := ?_) rfl (by kernel_rfl) (by kernel_rfl) (by kernel_rfl) (fun _ _ _ h => h) ?_ (by assumption) ?_
             rotate_left
             · refine Or.inl ⟨by kernel_rfl, ?_⟩
               intro w hSw
               (try dsimp only at hSw)
               first
                 | (go_simp; done)
                 | (go_simp; with_reducible rfl)
             try simp only [Act.put, List.setIfInBounds_toArray, List.set_cons_zero, List.set_cons_succ]
             refine wpAnyH_take (i := 27) (v := ?_) rfl (by kernel_rfl) (by kernel_rfl) (by kernel_rfl) (fun _ _ _ h => h) ?_ (by assumption) ?_
             rotate_left
             · refine Or.inl ⟨by kernel_rfl, ?_⟩
               intro w hSw
               (try dsimp only at hSw)
               first
                 | (go_simp; done)
                 | (go_simp; with_reducible rfl)
             try simp only [Act.put, List.setIfInBounds_toArray, List.set_cons_zero, List.set_cons_succ]
             refine wpAnyH_take (i := 28) (v := ?_) rfl (by kernel_rfl) (by kernel_rfl) (by kernel_rfl) (fun _ _ _ h => h) ?_ (by assumption) ?_
             rotate_left
             · refine Or.inl ⟨by kernel_rfl, ?_⟩
               intro w hSw
               (try dsimp only at hSw)
               first
                 | (go_simp; done)
                 | (go_simp; with_reducible rfl)
             try simp only [Act.put, List.setIfInBounds_toArray, List.set_cons_zero, List.set_cons_succ]
             refine wpAnyH_take (i := 29) (v := ?_) rfl (by kernel_rfl) (by kernel_rfl) (by kernel_rfl) (fun _ _ _ h => h) ?_ (by assumption) ?_
             rotate_left
             · refine Or.inl ⟨by kernel_rfl, ?_⟩
               intro w hSw
               (try dsimp only at hSw)
               first
                 | (go_simp; done)
                 | (go_simp; with_reducible rfl)
             try simp only [Act.put, List.setIfInBounds_toArray, List.set_cons_zero, List.set_cons_succ]
             refine wpAnyH_take (i := 30) (v := ?_) rfl (by kernel_rfl) (by kernel_rfl) (by kernel_rfl) (fun _ _ _ h => h) ?_ (by assumption) ?_
             rotate_left
             · refine Or.inl ⟨by kernel_rfl, ?_⟩
               intro w hSw
               (try dsimp only at hSw)
               first
                 | (go_simp; done)
                 | (go_simp; with_reducible rfl)
             try simp only [Act.put, List.setIfInBounds_toArray, List.set_cons_zero, List.set_cons_succ]
             refine wpAnyH_take (i := 32) (v := ?_) rfl (by kernel_rfl) (by kernel_rfl) (by kernel_rfl) (fun _ _ _ h => h) ?_ (by assumption) ?_
             rotate_left
             · refine Or.inl ⟨by kernel_rfl, ?_⟩
               intro w hSw
               (try dsimp only at hSw)
               first
                 | (go_simp; done)
                 | (go_simp; with_reducible rfl)
             try simp only [Act.put, List.setIfInBounds_toArray, List.set_cons_zero, List.set_cons_succ]
             refine wpAnyH_take (i := 33) (v := ?_) rfl (by kernel_rfl) (by kernel_rfl) (by kernel_rfl) (fun _ _ _ h => h) ?_ (by assumption) ?_
             rotate_left
             · refine Or.inl ⟨by kernel_rfl, ?_⟩
               intro w hSw
               (try dsimp only at hSw)
               first
                 | (go_simp; done)
                 | (go_simp; with_reducible rfl)
             try simp only [Act.put, List.setIfInBounds_toArray, List.set_cons_zero, List.set_cons_succ]
             refine wpAnyH_ready (rs := [31]) (by kernel_rfl) (by simp) ?_
             refine AllReadyH.cons rfl (fun Kq hKq => ?_) AllReadyH.nil
             go_simp
             refine (HS1.out _ kk).mono ?_
             rintro e w5 ⟨rfl, hb5⟩
             replace kk := kk.trans (hb5.mono kk.size)
             clear hb5
             go_wp2_with fail
             refine hKq.out _ _ ?_ (fun hHeld => ?_)
             · exact ⟨(kk.cell (p := ⟨w.heap.size, 0, none⟩) y1).trans c0, (kk.cell (p := ⟨w.heap.size, 1, none⟩) y1).trans c1, (kk.cell (p := ⟨w.heap.size, 2, none⟩) y1).trans c2, (kk.cell (p := ⟨w.heap.size + 1, 0, none⟩) y2).trans t0, (kk.cell (p := ⟨w.heap.size + 1, 1, none⟩) y2).trans t1, (kk.cell (p := ⟨w.heap.size + 1, 2, none⟩) y2).trans t2, (kk.cell (p := ⟨b, off + K * 2, none⟩) hbl).trans q1, (kk.cell (p := ⟨b, off + K * 2 + 1, none⟩) hbl).trans q2, (kk.cell (p := ⟨b2, off2 + K * 2, none⟩) hbl2).trans q3, (kk.cell (p := ⟨b2, off2 + K * 2 + 1, none⟩) hbl2).trans q4⟩
             clear hKq Kq
             try simp only [Act.put, List.setIfInBounds_toArray, List.set_cons_zero, List.set_cons_succ]
             refine wpAnyH_ready (rs := [34]) (by kernel_rfl) (by simp) ?_
             refine AllReadyH.cons rfl (fun Kq hKq => ?_) AllReadyH.nil
             go_simp
             refine (HS2.out _ kk).mono ?_
             rintro e w5 ⟨rfl, hb5⟩
             replace kk := kk.trans (hb5.mono kk.size)
             clear hb5
             go_wp2_with fail
             refine hKq.out _ _ ?_ (fun hHeld => ?_)
             · exact ⟨(kk.cell (p := ⟨w.heap.size, 0, none⟩) y1).trans c0, (kk.cell (p := ⟨w.heap.size, 1, none⟩) y1).trans c1, (kk.cell (p := ⟨w.heap.size, 2, none⟩) y1).trans c2, (kk.cell (p := ⟨w.heap.size + 1, 0, none⟩) y2).trans t0, (kk.cell (p := ⟨w.heap.size + 1, 1, none⟩) y2).trans t1, (kk.cell (p := ⟨w.heap.size + 1, 2, none⟩) y2).trans t2, (kk.cell (p := ⟨b, off + K * 2, none⟩) hbl).trans q1, (kk.cell (p := ⟨b, off + K * 2 + 1, none⟩) hbl).trans q2, (kk.cell (p := ⟨b2, off2 + K * 2, none⟩) hbl2).trans q3, (kk.cell (p := ⟨b2, off2 + K * 2 + 1, none⟩) hbl2).trans q4⟩
             clear hKq Kq
             try simp only [Act.put, List.setIfInBounds_toArray, List.set_cons_zero, List.set_cons_succ]
             refine wpAnyH_take (i := 35) (v := ?_) rfl (by kernel_rfl) (by kernel_rfl) (by kernel_rfl) (fun _ _ _ h => h) ?_ (by assumption) ?_
             rotate_left
             · refine Or.inl ⟨by kernel_rfl, ?_⟩
               intro w hSw
               (try dsimp only at hSw)
               first
                 | (go_simp; done)
                 | (go_simp; with_reducible rfl)
             try simp only [Act.put, List.setIfInBounds_toArray, List.set_cons_zero, List.set_cons_succ]
             refine wpAnyH_take (i := 36) (v := ?_) rfl (by kernel_rfl) (by kernel_rfl) (by kernel_rfl) (fun _ _ _ h => h) ?_ (by assumption) ?_
             rotate_left
             · refine Or.inl ⟨by kernel_rfl, ?_⟩
               intro w hSw
               (try dsimp only at hSw)
               first
                 | (go_simp; done)
                 | (go_simp; with_reducible rfl)
             try simp only [Act.put, List.setIfInBounds_toArray, List.set_cons_zero, List.set_cons_succ]
             refine wpAnyH_take (i := 37) (v := ?_) rfl (by kernel_rfl) (by kernel_rfl) (by kernel_rfl) (fun _ _ _ h => h) ?_ (by assumption) ?_
             rotate_left
             · refine Or.inl ⟨by kernel_rfl, ?_⟩
               intro w hSw
               (try dsimp only at hSw)
               first
                 | (go_simp; done)
                 | (go_simp; with_reducible rfl)
             try simp only [Act.put, List.setIfInBounds_toArray, List.set_cons_zero, List.set_cons_succ]
             refine wpAnyH_take (i := 38) (v := ?_) rfl (by kernel_rfl) (by kernel_rfl) (by kernel_rfl) (fun _ _ _ h => h) ?_ (by assumption) ?_
             rotate_left
             · refine Or.inl ⟨by kernel_rfl, ?_⟩
               intro w hSw
               (try dsimp only at hSw)
               first
                 | (go_simp; done)
                 | (go_simp; with_reducible rfl)
             try simp only [Act.put, List.setIfInBounds_toArray, List.set_cons_zero, List.set_cons_succ]
             refine wpAnyH_take (i := 39) (v := ?_) rfl (by kernel_rfl) (by kernel_rfl) (by kernel_rfl) (fun _ _ _ h => h) ?_ (by assumption) ?_
             rotate_left
             · refine Or.inl ⟨by kernel_rfl, ?_⟩
               intro w hSw
               (try dsimp only at hSw)
               first
                 | (go_simp; done)
                 | (go_simp; with_reducible rfl)
             try simp only [Act.put, List.setIfInBounds_toArray, List.set_cons_zero, List.set_cons_succ]
             refine wpAnyH_take (i := 40) (v := ?_) rfl (by kernel_rfl) (by kernel_rfl) (by kernel_rfl) (fun _ _ _ h => h) ?_ (by assumption) ?_
             rotate_left
             · refine Or.inl ⟨by kernel_rfl, ?_⟩
               intro w hSw
               (try dsimp only at hSw)
               first
                 | (go_simp; done)
                 | (go_simp; with_reducible rfl)
             try simp only [Act.put, List.setIfInBounds_toArray, List.set_cons_zero, List.set_cons_succ]
             refine wpAnyH_take (i := 41) (v := ?_) rfl (by kernel_rfl) (by kernel_rfl) (by kernel_rfl) (fun _ _ _ h => h) ?_ (by assumption) ?_
             rotate_left
             · refine Or.inl ⟨by kernel_rfl, ?_⟩
               intro w hSw
               (try dsimp only at hSw)
               first
                 | (go_simp; done)
                 | (go_simp; with_reducible rfl)
             try simp only [Act.put, List.setIfInBounds_toArray, List.set_cons_zero, List.set_cons_succ]
             refine wpAnyH_ready (rs := [42]) (by kernel_rfl) (by simp) ?_
             refine AllReadyH.cons rfl (fun Kq hKq => ?_) AllReadyH.nil
             go_simp
             refine (HS1.out _ kk).mono ?_
             rintro e w5 ⟨rfl, hb5⟩
             replace kk := kk.trans (hb5.mono kk.size)
             clear hb5
             go_wp2_with fail
             refine hKq.out _ _ ?_ (fun hHeld => ?_)
             · exact ⟨(kk.cell (p := ⟨w.heap.size, 0, none⟩) y1).trans c0, (kk.cell (p := ⟨w.heap.size, 1, none⟩) y1).trans c1, (kk.cell (p := ⟨w.heap.size, 2, none⟩) y1).trans c2, (kk.cell (p := ⟨w.heap.size + 1, 0, none⟩) y2).trans t0, (kk.cell (p := ⟨w.heap.size + 1, 1, none⟩) y2).trans t1, (kk.cell (p := ⟨w.heap.size + 1, 2, none⟩) y2).trans t2, (kk.cell (p := ⟨b, off + K * 2, none⟩) hbl).trans q1, (kk.cell (p := ⟨b, off + K * 2 + 1, none⟩) hbl).trans q2, (kk.cell (p := ⟨b2, off2 + K * 2, none⟩) hbl2).trans q3, (kk.cell (p := ⟨b2, off2 + K * 2 + 1, none⟩) hbl2).trans q4⟩
             clear hKq Kq
             try simp only [Act.put, List.setIfInBounds_toArray, List.set_cons_zero, List.set_cons_succ]
             refine wpAnyH_take (i := 43) (v := ?_) rfl (by kernel_rfl) (by kernel_rfl) (by kernel_rfl) (fun _ _ _ h => h) ?_ (by assumption) ?_
             rotate_left
             · refine Or.inl ⟨by kernel_rfl, ?_⟩
               intro w hSw
               (try dsimp only at hSw)
               first
                 | (go_simp; done)
                 | (go_simp; with_reducible rfl)
             try simp only [Act.put, List.setIfInBounds_toArray, List.set_cons_zero, List.set_cons_succ]
             refine wpAnyH_take (i := 44) (v := ?_) rfl (by kernel_rfl) (by kernel_rfl) (by kernel_rfl) (fun _ _ _ h => h) ?_ (by assumption) ?_
             rotate_left
             · refine Or.inl ⟨by kernel_rfl, ?_⟩
               intro w hSw
               (try dsimp only at hSw)
               first
                 | (go_simp; done)
                 | (go_simp; with_reducible rfl)
             try simp only [Act.put, List.setIfInBounds_toArray, List.set_cons_zero, List.set_cons_succ]
             refine wpAnyH_done (by kernel_rfl) ?_ _
             have a1 := A1.out
             have a0 := A0.out
             have m1 := M1.out
             have m0 := M0.out
             clear A1 A0 M1 M0
             try simp only [Act.put, List.getElem_toArray, List.getElem_cons_succ, List.getElem_cons_zero, List.setIfInBounds_toArray, List.set_cons_zero, List.set_cons_succ]
             go_wp2_with fail
             first
               | (go_meet; exact ⟨rfl, kk⟩)
               | (rename_i f1 d1 h1 f2 d2 h2
                  have e1 : d1 = 121 := (Option.some.inj h1).symm
                  have e2 : d2 = 120 := (Option.some.inj h2).symm
                  subst e1; subst e2
                  try simp only [Act.put, List.setIfInBounds_toArray, List.set_cons_zero, List.set_cons_succ]
                  go_meet
                  exact ⟨rfl, kk⟩)
           · have e3 : decide ((K : Int) < (m' : Int)) = false := by simp; omega
             have e3' : decide (K < m') = false := by simp; omega
             go_wp2_with fail
             rename_i Kb a1 Ka a0 J K9 m1 m0
             have A1 := Lib.hid a1
             have A0 := Lib.hid a0
             have M1 := Lib.hid m1
             have M0 := Lib.hid m0
             clear a1 a0 m1 m0
             refine wp_region_held_drew (S := fun W => W.cell? ⟨w.heap.size, 0, none⟩ = some (.slice A n c) ∧ W.cell? ⟨w.heap.size, 1, none⟩ = some (.int .i64 L) ∧ W.cell? ⟨w.heap.size, 2, none⟩ = some (.slice A' n' c') ∧ W.cell? ⟨w.heap.size + 1, 0, none⟩ = some (.slice D m d) ∧ W.cell? ⟨w.heap.size + 1, 1, none⟩ = some (.int .i64 M) ∧ W.cell? ⟨w.heap.size + 1, 2, none⟩ = some (.slice D' m' d')) (by kernel_rfl) ?_ (fun hHeld => ?_)
             · exact ⟨(kk.cell (p := ⟨w.heap.size, 0, none⟩) y1).trans c0, (kk.cell (p := ⟨w.heap.size, 1, none⟩) y1).trans c1, (kk.cell (p := ⟨w.heap.size, 2, none⟩) y1).trans c2, (kk.cell (p := ⟨w.heap.size + 1, 0, none⟩) y2).trans t0, (kk.cell (p := ⟨w.heap.size + 1, 1, none⟩) y2).trans t1, (kk.cell (p := ⟨w.heap.size + 1, 2, none⟩) y2).trans t2⟩
             refine wpAnyH_take (i := 0) (v := ?_) rfl (by kernel_rfl) (by kernel_rfl) (by kernel_rfl) (fun _ _ _ h => h) ?_ (by assumption) ?_
             rotate_left
             · refine Or.inl ⟨by kernel_rfl, ?_⟩
               intro w hSw
               (try dsimp only at hSw)
               first
                 | (go_simp; done)
                 | (go_simp; with_reducible rfl)
             try simp only [Act.put, List.setIfInBounds_toArray, List.set_cons_zero, List.set_cons_succ]
             refine wpAnyH_take (i := 1) (v := ?_) rfl (by kernel_rfl) (by kernel_rfl) (by kernel_rfl) (fun _ _ _ h => h) ?_ (by assumption) ?_
             rotate_left
             · refine Or.inl ⟨by kernel_rfl, ?_⟩
               intro w hSw
               (try dsimp only at hSw)
               first
                 | (go_simp; done)
                 | (go_simp; with_reducible rfl)
             try simp only [Act.put, List.setIfInBounds_toArray, List.set_cons_zero, List.set_cons_succ]
             refine wpAnyH_take (i := 2) (v := ?_) rfl (by kernel_rfl) (by kernel_rfl) (by kernel_rfl) (fun _ _ _ h => h) ?_ (by assumption) ?_
             rotate_left
             · refine Or.inl ⟨by kernel_rfl, ?_⟩
               intro w hSw
               (try dsimp only at hSw)
               first
                 | (go_simp; done)
                 | (go_simp; with_reducible rfl)
             try simp only [Act.put, List.setIfInBounds_toArray, List.set_cons_zero, List.set_cons_succ]
             refine wpAnyH_take (i := 3) (v := ?_) rfl (by kernel_rfl) (by kernel_rfl) (by kernel_rfl) (fun _ _ _ h => h) ?_ (by assumption) ?_
             rotate_left
             · refine Or.inl ⟨by kernel_rfl, ?_⟩
               intro w hSw
               (try dsimp only at hSw)
               first
                 | (go_simp; done)
                 | (go_simp; with_reducible rfl)
             try simp only [Act.put, List.setIfInBounds_toArray, List.set_cons_zero, List.set_cons_succ]
             refine wpAnyH_take (i := 4) (v := ?_) rfl (by kernel_rfl) (by kernel_rfl) (by kernel_rfl) (fun _ _ _ h => h) ?_ (by assumption) ?_
             rotate_left
             · refine Or.inl ⟨by kernel_rfl, ?_⟩
               intro w hSw
               (try dsimp only at hSw)
               first
                 | (go_simp; done)
                 | (go_simp; with_reducible rfl)
             try simp only [Act.put, List.setIfInBounds_toArray, List.set_cons_zero, List.set_cons_succ]
             refine wpAnyH_take (i := 5) (v := ?_) rfl (by kernel_rfl) (by kernel_rfl) (by kernel_rfl) (fun _ _ _ h => h) ?_ (by assumption) ?_
             rotate_left
             · refine Or.inl ⟨by kernel_rfl, ?_⟩
               intro w hSw
               (try dsimp only at hSw)
               first
                 | (go_simp; done)
                 | (go_simp; with_reducible rfl)
             try simp only [Act.put, List.setIfInBounds_toArray, List.set_cons_zero, List.set_cons_succ]
             refine wpAnyH_take (i := 6) (v := ?_) rfl (by kernel_rfl) (by kernel_rfl) (by kernel_rfl) (fun _ _ _ h => h) ?_ (by assumption) ?_
             rotate_left
             · refine Or.inl ⟨by kernel_rfl, ?_⟩
               intro w hSw
               (try dsimp only at hSw)
               first
                 | (go_simp; done)
                 | (go_simp; with_reducible rfl)
             try simp only [Act.put, List.setIfInBounds_toArray, List.set_cons_zero, List.set_cons_succ]
             refine wpAnyH_take (i := 7) (v := ?_) rfl (by kernel_rfl) (by kernel_rfl) (by kernel_rfl) (fun _ _ _ h => h) ?_ (by assumption) ?_
             rotate_left
             · refine Or.inl ⟨by kernel_rfl, ?_⟩
               intro w hSw
               (try dsimp only at hSw)
               first
                 | (go_simp; done)
                 | (go_simp; with_reducible rfl)
             try simp only [Act.put, List.setIfInBounds_toArray, List.set_cons_zero, List.set_cons_succ]
             refine wpAnyH_take (i := 8) (v := ?_) rfl (by kernel_rfl) (by kernel_rfl) (by kernel_rfl) (fun _ _ _ h => h) ?_ (by assumption) ?_
             rotate_left
             · refine Or.inl ⟨by kernel_rfl, ?_⟩
               intro w hSw
               (try dsimp only at hSw)
               first
                 | (go_simp; done)
                 | (go_simp; with_reducible rfl)
             try simp only [Act.put, List.setIfInBounds_toArray, List.set_cons_zero, List.set_cons_succ]
             refine wpAnyH_take (i := 9) (v := ?_) rfl (by kernel_rfl) (by kernel_rfl) (by kernel_rfl) (fun _ _ _ h => h) ?_ (by assumption) ?_
             rotate_left
             · refine Or.inl ⟨by kernel_rfl, ?_⟩
               intro w hSw
               (try dsimp only at hSw)
               first
                 | (go_simp; done)
                 | (go_simp; with_reducible rfl)
             try simp only [Act.put, List.setIfInBounds_toArray, List.set_cons_zero, List.set_cons_succ]
             refine wpAnyH_take (i := 10) (v := ?_) rfl (by kernel_rfl) (by kernel_rfl) (by kernel_rfl) (fun _ _ _ h => h) ?_ (by assumption) ?_
             rotate_left
             · refine Or.inl ⟨by kernel_rfl, ?_⟩
               intro w hSw
               (try dsimp only at hSw)
               first
                 | (go_simp; done)
                 | (go_simp; with_reducible rfl)
             try simp only [Act.put, List.setIfInBounds_toArray, List.set_cons_zero, List.set_cons_succ]
             refine wpAnyH_take (i := 11) (v := ?_) rfl (by kernel_rfl) (by kernel_rfl) (by kernel_rfl) (fun _ _ _ h => h) ?_ (by assumption) ?_
             rotate_left
             · refine Or.inl ⟨by kernel_rfl, ?_⟩
               intro w hSw
               (try dsimp only at hSw)
               first
                 | (go_simp; done)
                 | (go_simp; with_reducible rfl)
             try simp only [Act.put, List.setIfInBounds_toArray, List.set_cons_zero, List.set_cons_succ]
             refine wpAnyH_take (i := 12) (v := ?_) rfl (by kernel_rfl) (by kernel_rfl) (by kernel_rfl) (fun _ _ _ h => h) ?_ (by assumption) ?_
             rotate_left
             · refine Or.inl ⟨by kernel_rfl, ?_⟩
               intro w hSw
               (try dsimp only at hSw)
               first
                 | (go_simp; done)
                 | (go_simp; with_reducible rfl)
             try simp only [Act.put, List.setIfInBounds_toArray, List.set_cons_zero, List.set_cons_succ]
             refine wpAnyH_take (i := 13) (v := ?_) rfl (by kernel_rfl) (by kernel_rfl) (by kernel_rfl) (fun _ _ _ h => h) ?_ (by assumption) ?_
             rotate_left
             · refine Or.inl ⟨by kernel_rfl, ?_⟩
               intro w hSw
               (try dsimp only at hSw)
               first
                 | (go_simp; done)
                 | (go_simp; with_reducible rfl)
             try simp only [Act.put, List.setIfInBounds_toArray, List.set_cons_zero, List.set_cons_succ]
             refine wpAnyH_take (i := 14) (v := ?_) rfl (by kernel_rfl) (by kernel_rfl) (by kernel_rfl) (fun _ _ _ h => h) ?_ (by assumption) ?_
             rotate_left
             · refine Or.inl ⟨by kernel_rfl, ?_⟩
               intro w hSw
               (try dsimp only at hSw)
               first
                 | (go_simp; done)
                 | (go_simp; with_reducible rfl)
             try simp only [Act.put, List.setIfInBounds_toArray, List.set_cons_zero, List.set_cons_succ]
             refine wpAnyH_take (i := 15) (v := ?_) rfl (by kernel_rfl) (by kernel_rfl) (by kernel_rfl) (fun _ _ _ h => h) ?_ (by assumption) ?_
             rotate_left
             · refine Or.inl ⟨by kernel_rfl, ?_⟩
               intro w hSw
               (try dsimp only at hSw)
               first
                 | (go_simp; done)
                 | (go_simp; with_reducible rfl)
             try simp only [Act.put, List.setIfInBounds_toArray, List.set_cons_zero, List.set_cons_succ]
             refine wpAnyH_take (i := 16) (v := undef) rfl (by kernel_rfl) (by kernel_rfl) (by kernel_rfl) (fun _ _ _ h => h) (Or.inr ⟨by kernel_rfl, rfl⟩) (by assumption) ?_
             try simp only [Act.put, List.setIfInBounds_toArray, List.set_cons_zero, List.set_cons_succ]
             refine wpAnyH_take (i := 17) (v := undef) rfl (by kernel_rfl) (by kernel_rfl) (by kernel_rfl) (fun _ _ _ h => h) (Or.inr ⟨by kernel_rfl, rfl⟩) (by assumption) ?_
             try simp only [Act.put, List.setIfInBounds_toArray, List.set_cons_zero, List.set_cons_succ]
             refine wpAnyH_take (i := 18) (v := undef) rfl (by kernel_rfl) (by kernel_rfl) (by kernel_rfl) (fun _ _ _ h => h) (Or.inr ⟨by kernel_rfl, rfl⟩) (by assumption) ?_
             try simp only [Act.put, List.setIfInBounds_toArray, List.set_cons_zero, List.set_cons_succ]
             refine wpAnyH_take (i := 19) (v := undef) rfl (by kernel_rfl) (by kernel_rfl) (by kernel_rfl) (fun _ _ _ h => h) (Or.inr ⟨by kernel_rfl, rfl⟩) (by assumption) ?_
             try simp only [Act.put, List.setIfInBounds_toArray, List.set_cons_zero, List.set_cons_succ]
             refine wpAnyH_take (i := 20) (v := undef) rfl (by kernel_rfl) (by kernel_rfl) (by kernel_rfl) (fun _ _ _ h => h) (Or.inr ⟨by kernel_rfl, rfl⟩) (by assumption) ?_
             try simp only [Act.put, List.setIfInBounds_toArray, List.set_cons_zero, List.set_cons_succ]
             refine wpAnyH_take (i := 21) (v := undef) rfl (by kernel_rfl) (by kernel_rfl) (by kernel_rfl) (fun _ _ _ h => h) (Or.inr ⟨by kernel_rfl, rfl⟩) (by assumption) ?_
             try simp only [Act.put, List.setIfInBounds_toArray, List.set_cons_zero, List.set_cons_succ]
             refine wpAnyH_take (i := 22) (v := undef) rfl (by kernel_rfl) (by kernel_rfl) (by kernel_rfl) (fun _ _ _ h => h) (Or.inr ⟨by kernel_rfl, rfl⟩) (by assumption) ?_
             try simp only [Act.put, List.setIfInBounds_toArray, List.set_cons_zero, List.set_cons_succ]
             refine wpAnyH_take (i := 23) (v := undef) rfl (by kernel_rfl) (by kernel_rfl) (by kernel_rfl) (fun _ _ _ h => h) (Or.inr ⟨by kernel_rfl, rfl⟩) (by assumption) ?_
             try simp only [Act.put, List.setIfInBounds_toArray, List.set_cons_zero, List.set_cons_succ]
             refine wpAnyH_take (i := 24) (v := undef) rfl (by kernel_rfl) (by kernel_rfl) (by kernel_rfl) (fun _ _ _ h => h) (Or.inr ⟨by kernel_rfl, rfl⟩) (by assumption) ?_
             try simp only [Act.put, List.setIfInBounds_toArray, List.set_cons_zero, List.set_cons_succ]
             refine wpAnyH_take (i := 25) (v := undef) rfl (by kernel_rfl) (by kernel_rfl) (by kernel_rfl) (fun _ _ _ h => h) (Or.inr ⟨by kernel_rfl, rfl⟩) (by assumption) ?_
             try simp only [Act.put, List.setIfInBounds_toArray, List.set_cons_zero, List.set_cons_succ]
             refine wpAnyH_take (i := 26) (v := undef) rfl (by kernel_rfl) (by kernel_rfl) (by kernel_rfl) (fun _ _ _ h => h) (Or.inr ⟨by kernel_rfl, rfl⟩) (by assumption) ?_
             try simp only [Act.put, List.setIfInBounds_toArray, List.set_cons_zero, List.set_cons_succ]
             refine wpAnyH_take (i := 27) (v := ?_) rfl (by kernel_rfl) (by kernel_rfl) (by kernel_rfl) (fun _ _ _ h => h) ?_ (by assumption) ?_
             rotate_left
             · refine Or.inl ⟨by kernel_rfl, ?_⟩
               intro w hSw
               (try dsimp only at hSw)
               first
                 | (go_simp; done)
                 | (go_simp; with_reducible rfl)
             try simp only [Act.put, List.setIfInBounds_toArray, List.set_cons_zero, List.set_cons_succ]
             refine wpAnyH_take (i := 28) (v := ?_) rfl (by kernel_rfl) (by kernel_rfl) (by kernel_rfl) (fun _ _ _ h => h) ?_ (by assumption) ?_
             rotate_left
             · refine Or.inl ⟨by kernel_rfl, ?_⟩
               intro w hSw
               (try dsimp only at hSw)
               first
                 | (go_simp; done)
                 | (go_simp; with_reducible rfl)
             try simp only [Act.put, List.setIfInBounds_toArray, List.set_cons_zero, List.set_cons_succ]
             refine wpAnyH_take (i := 29) (v := ?_) rfl (by kernel_rfl) (by kernel_rfl) (by kernel_rfl) (fun _ _ _ h => h) ?_ (by assumption) ?_
             rotate_left
             · refine Or.inl ⟨by kernel_rfl, ?_⟩
               intro w hSw
               (try dsimp only at hSw)
               first
                 | (go_simp; done)
                 | (go_simp; with_reducible rfl)
             try simp only [Act.put, List.setIfInBounds_toArray, List.set_cons_zero, List.set_cons_succ]
             refine wpAnyH_take (i := 30) (v := ?_) rfl (by kernel_rfl) (by kernel_rfl) (by kernel_rfl) (fun _ _ _ h => h) ?_ (by assumption) ?_
             rotate_left
             · refine Or.inl ⟨by kernel_rfl, ?_⟩
               intro w hSw
               (try dsimp only at hSw)
               first
                 | (go_simp; done)
                 | (go_simp; with_reducible rfl)
             try simp only [Act.put, List.setIfInBounds_toArray, List.set_cons_zero, List.set_cons_succ]
             refine wpAnyH_take (i := 32) (v := ?_) rfl (by kernel_rfl) (by kernel_rfl) (by kernel_rfl) (fun _ _ _ h => h) ?_ (by assumption) ?_
             rotate_left
             · refine Or.inl ⟨by kernel_rfl, ?_⟩
               intro w hSw
               (try dsimp only at hSw)
               first
                 | (go_simp; done)
                 | (go_simp; with_reducible rfl)
             try simp only [Act.put, List.setIfInBounds_toArray, List.set_cons_zero, List.set_cons_succ]
             refine wpAnyH_take (i := 33) (v := ?_) rfl (by kernel_rfl) (by kernel_rfl) (by kernel_rfl) (fun _ _ _ h => h) ?_ (by assumption) ?_
             rotate_left
             · refine Or.inl ⟨by kernel_rfl, ?_⟩
               intro w hSw
               (try dsimp only at hSw)
               first
                 | (go_simp; done)
                 | (go_simp; with_reducible rfl)
             try simp only [Act.put, List.setIfInBounds_toArray, List.set_cons_zero, List.set_cons_succ]
             refine wpAnyH_ready (rs := [31]) (by kernel_rfl) (by simp) ?_
             refine AllReadyH.cons rfl (fun Kq hKq => ?_) AllReadyH.nil
             go_simp
             refine (HS1.out _ kk).mono ?_
             rintro e w5 ⟨rfl, hb5⟩
             replace kk := kk.trans (hb5.mono kk.size)
             clear hb5
             go_wp2_with fail
             refine hKq.out _ _ ?_ (fun hHeld => ?_)
             · exact ⟨(kk.cell (p := ⟨w.heap.size, 0, none⟩) y1).trans c0, (kk.cell (p := ⟨w.heap.size, 1, none⟩) y1).trans c1, (kk.cell (p := ⟨w.heap.size, 2, none⟩) y1).trans c2, (kk.cell (p := ⟨w.heap.size + 1, 0, none⟩) y2).trans t0, (kk.cell (p := ⟨w.heap.size + 1, 1, none⟩) y2).trans t1, (kk.cell (p := ⟨w.heap.size + 1, 2, none⟩) y2).trans t2⟩
             clear hKq Kq
             try simp only [Act.put, List.setIfInBounds_toArray, List.set_cons_zero, List.set_cons_succ]
             refine wpAnyH_ready (rs := [34]) (by kernel_rfl) (by simp) ?_
             refine AllReadyH.cons rfl (fun Kq hKq => ?_) AllReadyH.nil
             go_simp
             refine (HS2.out _ kk).mono ?_
             rintro e w5 ⟨rfl, hb5⟩
             replace kk := kk.trans (hb5.mono kk.size)
             clear hb5
             go_wp2_with fail
             refine hKq.out _ _ ?_ (fun hHeld => ?_)
             · exact ⟨(kk.cell (p := ⟨w.heap.size, 0, none⟩) y1).trans c0, (kk.cell (p := ⟨w.heap.size, 1, none⟩) y1).trans c1, (kk.cell (p := ⟨w.heap.size, 2, none⟩) y1).trans c2, (kk.cell (p := ⟨w.heap.size + 1, 0, none⟩) y2).trans t0, (kk.cell (p := ⟨w.heap.size + 1, 1, none⟩) y2).trans t1, (kk.cell (p := ⟨w.heap.size + 1, 2, none⟩) y2).trans t2⟩
             clear hKq Kq
             try simp only [Act.put, List.setIfInBounds_toArray, List.set_cons_zero, List.set_cons_succ]
             refine wpAnyH_take (i := 35) (v := ?_) rfl (by kernel_rfl) (by kernel_rfl) (by kernel_rfl) (fun _ _ _ h => h) ?_ (by assumption) ?_
             rotate_left
             · refine Or.inl ⟨by kernel_rfl, ?_⟩
               intro w hSw
               (try dsimp only at hSw)
               first
                 | (go_simp; done)
                 | (go_simp; with_reducible rfl)
             try simp only [Act.put, List.setIfInBounds_toArray, List.set_cons_zero, List.set_cons_succ]
             refine wpAnyH_take (i := 36) (v := ?_) rfl (by kernel_rfl) (by kernel_rfl) (by kernel_rfl) (fun _ _ _ h => h) ?_ (by assumption) ?_
             rotate_left
             · refine Or.inl ⟨by kernel_rfl, ?_⟩
               intro w hSw
               (try dsimp only at hSw)
               first
                 | (go_simp; done)
                 | (go_simp; with_reducible rfl)
             try simp only [Act.put, List.setIfInBounds_toArray, List.set_cons_zero, List.set_cons_succ]
             refine wpAnyH_take (i := 37) (v := ?_) rfl (by kernel_rfl) (by kernel_rfl) (by kernel_rfl) (fun _ _ _ h => h) ?_ (by assumption) ?_
             rotate_left
             · refine Or.inl ⟨by kernel_rfl, ?_⟩
               intro w hSw
               (try dsimp only at hSw)
               first
                 | (go_simp; done)
                 | (go_simp; with_reducible rfl)
             try simp only [Act.put, List.setIfInBounds_toArray, List.set_cons_zero, List.set_cons_succ]
             refine wpAnyH_take (i := 38) (v := ?_) rfl (by kernel_rfl) (by kernel_rfl) (by kernel_rfl) (fun _ _ _ h => h) ?_ (by assumption) ?_
             rotate_left
             · refine Or.inl ⟨by kernel_rfl, ?_⟩
               intro w hSw
               (try dsimp only at hSw)
               first
                 | (go_simp; done)
                 | (go_simp; with_reducible rfl)
             try simp only [Act.put, List.setIfInBounds_toArray, List.set_cons_zero, List.set_cons_succ]
             refine wpAnyH_take (i := 39) (v := ?_) rfl (by kernel_rfl) (by kernel_rfl) (by kernel_rfl) (fun _ _ _ h => h) ?_ (by assumption) ?_
             rotate_left
             · refine Or.inl ⟨by kernel_rfl, ?_⟩
               intro w hSw
               (try dsimp only at hSw)
               first
                 | (go_simp; done)
                 | (go_simp; with_reducible rfl)
             try simp only [Act.put, List.setIfInBounds_toArray, List.set_cons_zero, List.set_cons_succ]
             refine wpAnyH_take (i := 40) (v := ?_) rfl (by kernel_rfl) (by kernel_rfl) (by kernel_rfl) (fun _ _ _ h => h) ?_ (by assumption) ?_
             rotate_left
             · refine Or.inl ⟨by kernel_rfl, ?_⟩
               intro w hSw
               (try dsimp only at hSw)
               first
                 | (go_simp; done)
                 | (go_simp; with_reducible rfl)
             try simp only [Act.put, List.setIfInBounds_toArray, List.set_cons_zero, List.set_cons_succ]
             refine wpAnyH_take (i := 41) (v := ?_) rfl (by kernel_rfl) (by kernel_rfl) (by kernel_rfl) (fun _ _ _ h => h) ?_ (by assumption) ?_
             rotate_left
             · refine Or.inl ⟨by kernel_rfl, ?_⟩
               intro w hSw
               (try dsimp only at hSw)
               first
                 | (go_simp; done)
                 | (go_simp; with_reducible rfl)
             try simp only [Act.put, List.setIfInBounds_toArray, List.set_cons_zero, List.set_cons_succ]
             refine wpAnyH_ready (rs := [42]) (by kernel_rfl) (by simp) ?_
             refine AllReadyH.cons rfl (fun Kq hKq => ?_) AllReadyH.nil
             go_simp
             refine (HS1.out _ kk).mono ?_
             rintro e w5 ⟨rfl, hb5⟩
             replace kk := kk.trans (hb5.mono kk.size)
             clear hb5
             go_wp2_with fail
             refine hKq.out _ _ ?_ (fun hHeld => ?_)
             · exact ⟨(kk.cell (p := ⟨w.heap.size, 0, none⟩) y1).trans c0, (kk.cell (p := ⟨w.heap.size, 1, none⟩) y1).trans c1, (kk.cell (p := ⟨w.heap.size, 2, none⟩) y1).trans c2, (kk.cell (p := ⟨w.heap.size + 1, 0, none⟩) y2).trans t0, (kk.cell (p := ⟨w.heap.size + 1, 1, none⟩) y2).trans t1, (kk.cell (p := ⟨w.heap.size + 1, 2, none⟩) y2).trans t2⟩
             clear hKq Kq
             try simp only [Act.put, List.setIfInBounds_toArray, List.set_cons_zero, List.set_cons_succ]
             refine wpAnyH_take (i := 43) (v := ?_) rfl (by kernel_rfl) (by kernel_rfl) (by kernel_rfl) (fun _ _ _ h => h) ?_ (by assumption) ?_
             rotate_left
             · refine Or.inl ⟨by kernel_rfl, ?_⟩
               intro w hSw
               (try dsimp only at hSw)
               first
                 | (go_simp; done)
                 | (go_simp; with_reducible rfl)
             try simp only [Act.put, List.setIfInBounds_toArray, List.set_cons_zero, List.set_cons_succ]
             refine wpAnyH_take (i := 44) (v := ?_) rfl (by kernel_rfl) (by kernel_rfl) (by kernel_rfl) (fun _ _ _ h => h) ?_ (by assumption) ?_
             rotate_left
             · refine Or.inl ⟨by kernel_rfl, ?_⟩
               intro w hSw
               (try dsimp only at hSw)
               first
                 | (go_simp; done)
                 | (go_simp; with_reducible rfl)
             try simp only [Act.put, List.setIfInBounds_toArray, List.set_cons_zero, List.set_cons_succ]
             refine wpAnyH_done (by kernel_rfl) ?_ _
             have a1 := A1.out
             have a0 := A0.out
             have m1 := M1.out
             have m0 := M0.out
             clear A1 A0 M1 M0
             try simp only [Act.put, List.getElem_toArray, List.getElem_cons_succ, List.getElem_cons_zero, List.setIfInBounds_toArray, List.set_cons_zero, List.set_cons_succ]
             go_wp2_with fail
             first
               | (go_meet; exact ⟨rfl, kk⟩)
               | (rename_i f1 d1 h1 f2 d2 h2
                  have e1 : d1 = 121 := (Option.some.inj h1).symm
                  have e2 : d2 = 120 := (Option.some.inj h2).symm
                  subst e1; subst e2
                  try simp only [Act.put, List.setIfInBounds_toArray, List.set_cons_zero, List.set_cons_succ]
                  go_meet
                  exact ⟨rfl, kk⟩)
         · have e2 : decide ((K : Int) < (n' : Int)) = false := by simp; omega
           have e2' : decide (K < n') = false := by simp; omega
           go_wp2_with fail
           rename_i Kb a1 Ka a0 J K9 m1 m0
           have A1 := Lib.hid a1
           have A0 := Lib.hid a0
           have M1 := Lib.hid m1
           have M0 := Lib.hid m0
           clear a1 a0 m1 m0
           refine wp_region_held_drew (S := fun W => W.cell? ⟨w.heap.size, 0, none⟩ = some (.slice A n c) ∧ W.cell? ⟨w.heap.size, 1, none⟩ = some (.int .i64 L) ∧ W.cell? ⟨w.heap.size, 2, none⟩ = some (.slice A' n' c') ∧ W.cell? ⟨w.heap.size + 1, 0, none⟩ = some (.slice D m d) ∧ W.cell? ⟨w.heap.size + 1, 1, none⟩ = some (.int .i64 M) ∧ W.cell? ⟨w.heap.size + 1, 2, none⟩ = some (.slice D' m' d')) (by kernel_rfl) ?_ (fun hHeld => ?_)
           · exact ⟨(kk.cell (p := ⟨w.heap.size, 0, none⟩) y1).trans c0, (kk.cell (p := ⟨w.heap.size, 1, none⟩) y1).trans c1, (kk.cell (p := ⟨w.heap.size, 2, none⟩) y1).trans c2, (kk.cell (p := ⟨w.heap.size + 1, 0, none⟩) y2).trans t0, (kk.cell (p := ⟨w.heap.size + 1, 1, none⟩) y2).trans t1, (kk.cell (p := ⟨w.heap.size + 1, 2, none⟩) y2).trans t2⟩
           refine wpAnyH_take (i := 0) (v := ?_) rfl (by kernel_rfl) (by kernel_rfl) (by kernel_rfl) (fun _ _ _ h => h) ?_ (by assumption) ?_
           rotate_left
           · refine Or.inl ⟨by kernel_rfl, ?_⟩
             intro w hSw
             (try dsimp only at hSw)
             first
               | (go_simp; done)
               | (go_simp; with_reducible rfl)
           try simp only [Act.put, List.setIfInBounds_toArray, List.set_cons_zero, List.set_cons_succ]
           refine wpAnyH_take (i := 1) (v := ?_) rfl (by kernel_rfl) (by kernel_rfl) (by kernel_rfl) (fun _ _ _ h => h) ?_ (by assumption) ?_
           rotate_left
           · refine Or.inl ⟨by kernel_rfl, ?_⟩
             intro w hSw
             (try dsimp only at hSw)
             first
               | (go_simp; done)
               | (go_simp; with_reducible rfl)
           try simp only [Act.put, List.setIfInBounds_toArray, List.set_cons_zero, List.set_cons_succ]
           refine wpAnyH_take (i := 2) (v := ?_) rfl (by kernel_rfl) (by kernel_rfl) (by kernel_rfl) (fun _ _ _ h => h) ?_ (by assumption) ?_
           rotate_left
           · refine Or.inl ⟨by kernel_rfl, ?_⟩
             intro w hSw
             (try dsimp only at hSw)
             first
               | (go_simp; done)
               | (go_simp; with_reducible rfl)
           try simp only [Act.put, List.setIfInBounds_toArray, List.set_cons_zero, List.set_cons_succ]
           refine wpAnyH_take (i := 3) (v := ?_) rfl (by kernel_rfl) (by kernel_rfl) (by kernel_rfl) (fun _ _ _ h => h) ?_ (by assumption) ?_
           rotate_left
           · refine Or.inl ⟨by kernel_rfl, ?_⟩
             intro w hSw
             (try dsimp only at hSw)
             first
               | (go_simp; done)
               | (go_simp; with_reducible rfl)
           try simp only [Act.put, List.setIfInBounds_toArray, List.set_cons_zero, List.set_cons_succ]
           refine wpAnyH_take (i := 4) (v := ?_) rfl (by kernel_rfl) (by kernel_rfl) (by kernel_rfl) (fun _ _ _ h => h) ?_ (by assumption) ?_
           rotate_left
           · refine Or.inl ⟨by kernel_rfl, ?_⟩
             intro w hSw
             (try dsimp only at hSw)
             first
               | (go_simp; done)
               | (go_simp; with_reducible rfl)
           try simp only [Act.put, List.setIfInBounds_toArray, List.set_cons_zero, List.set_cons_succ]
           refine wpAnyH_take (i := 5) (v := ?_) rfl (by kernel_rfl) (by kernel_rfl) (by kernel_rfl) (fun _ _ _ h => h) ?_ (by assumption) ?_
           rotate_left
           · refine Or.inl ⟨by kernel_rfl, ?_⟩
             intro w hSw
             (try dsimp only at hSw)
             first
               | (go_simp; done)
               | (go_simp; with_reducible rfl)
           try simp only [Act.put, List.setIfInBounds_toArray, List.set_cons_zero, List.set_cons_succ]
           refine wpAnyH_take (i := 6) (v := ?_) rfl (by kernel_rfl) (by kernel_rfl) (by kernel_rfl) (fun _ _ _ h => h) ?_ (by assumption) ?_
           rotate_left
           · refine Or.inl ⟨by kernel_rfl, ?_⟩
             intro w hSw
             (try dsimp only at hSw)
             first
               | (go_simp; done)
               | (go_simp; with_reducible rfl)
           try simp only [Act.put, List.setIfInBounds_toArray, List.set_cons_zero, List.set_cons_succ]
           refine wpAnyH_take (i := 7) (v := ?_) rfl (by kernel_rfl) (by kernel_rfl) (by kernel_rfl) (fun _ _ _ h => h) ?_ (by assumption) ?_
           rotate_left
           · refine Or.inl ⟨by kernel_rfl, ?_⟩
             intro w hSw
             (try dsimp only at hSw)
             first
               | (go_simp; done)
               | (go_simp; with_reducible rfl)
           try simp only [Act.put, List.setIfInBounds_toArray, List.set_cons_zero, List.set_cons_succ]
           refine wpAnyH_take (i := 8) (v := ?_) rfl (by kernel_rfl) (by kernel_rfl) (by kernel_rfl) (fun _ _ _ h => h) ?_ (by assumption) ?_
           rotate_left
           · refine Or.inl ⟨by kernel_rfl, ?_⟩
             intro w hSw
             (try dsimp only at hSw)
             first
               | (go_simp; done)
               | (go_simp; with_reducible rfl)
           try simp only [Act.put, List.setIfInBounds_toArray, List.set_cons_zero, List.set_cons_succ]
           refine wpAnyH_take (i := 9) (v := undef) rfl (by kernel_rfl) (by kernel_rfl) (by kernel_rfl) (fun _ _ _ h => h) (Or.inr ⟨by kernel_rfl, rfl⟩) (by assumption) ?_
           try simp only [Act.put, List.setIfInBounds_toArray, List.set_cons_zero, List.set_cons_succ]
           refine wpAnyH_take (i := 10) (v := undef) rfl (by kernel_rfl) (by kernel_rfl) (by kernel_rfl) (fun _ _ _ h => h) (Or.inr ⟨by kernel_rfl, rfl⟩) (by assumption) ?_
           try simp only [Act.put, List.setIfInBounds_toArray, List.set_cons_zero, List.set_cons_succ]
           refine wpAnyH_take (i := 11) (v := undef) rfl (by kernel_rfl) (by kernel_rfl) (by kernel_rfl) (fun _ _ _ h => h) (Or.inr ⟨by kernel_rfl, rfl⟩) (by assumption) ?_
           try simp only [Act.put, List.setIfInBounds_toArray, List.set_cons_zero, List.set_cons_succ]
           refine wpAnyH_take (i := 12) (v := undef) rfl (by kernel_rfl) (by kernel_rfl) (by kernel_rfl) (fun _ _ _ h => h) (Or.inr ⟨by kernel_rfl, rfl⟩) (by assumption) ?_
           try simp only [Act.put, List.setIfInBounds_toArray, List.set_cons_zero, List.set_cons_succ]
           refine wpAnyH_take (i := 13) (v := undef) rfl (by kernel_rfl) (by kernel_rfl) (by kernel_rfl) (fun _ _ _ h => h) (Or.inr ⟨by kernel_rfl, rfl⟩) (by assumption) ?_
           try simp only [Act.put, List.setIfInBounds_toArray, List.set_cons_zero, List.set_cons_succ]
           refine wpAnyH_take (i := 14) (v := ?_) rfl (by kernel_rfl) (by kernel_rfl) (by kernel_rfl) (fun _ _ _ h => h) ?_ (by assumption) ?_
           rotate_left
           · refine Or.inl ⟨by kernel_rfl, ?_⟩
             intro w hSw
             (try dsimp only at hSw)
             first
               | (go_simp; done)
               | (go_simp; with_reducible rfl)
           try simp only [Act.put, List.setIfInBounds_toArray, List.set_cons_zero, List.set_cons_succ]
           refine wpAnyH_take (i := 15) (v := ?_) rfl (by kernel_rfl) (by kernel_rfl) (by kernel_rfl) (fun _ _ _ h => h) ?_ (by assumption) ?_
           rotate_left
           · refine Or.inl ⟨by kernel_rfl, ?_⟩
             intro w hSw
             (try dsimp only at hSw)
             first
               | (go_simp; done)
               | (go_simp; with_reducible rfl)
           try simp only [Act.put, List.setIfInBounds_toArray, List.set_cons_zero, List.set_cons_succ]
           refine wpAnyH_take (i := 16) (v := undef) rfl (by kernel_rfl) (by kernel_rfl) (by kernel_rfl) (fun _ _ _ h => h) (Or.inr ⟨by kernel_rfl, rfl⟩) (by assumption) ?_
           try simp only [Act.put, List.setIfInBounds_toArray, List.set_cons_zero, List.set_cons_succ]
           refine wpAnyH_take (i := 17) (v := undef) rfl (by kernel_rfl) (by kernel_rfl) (by kernel_rfl) (fun _ _ _ h => h) (Or.inr ⟨by kernel_rfl, rfl⟩) (by assumption) ?_
           try simp only [Act.put, List.setIfInBounds_toArray, List.set_cons_zero, List.set_cons_succ]
           refine wpAnyH_take (i := 18) (v := undef) rfl (by kernel_rfl) (by kernel_rfl) (by kernel_rfl) (fun _ _ _ h => h) (Or.inr ⟨by kernel_rfl, rfl⟩) (by assumption) ?_
           try simp only [Act.put, List.setIfInBounds_toArray, List.set_cons_zero, List.set_cons_succ]
           refine wpAnyH_take (i := 19) (v := undef) rfl (by kernel_rfl) (by kernel_rfl) (by kernel_rfl) (fun _ _ _ h => h) (Or.inr ⟨by kernel_rfl, rfl⟩) (by assumption) ?_
           try simp only [Act.put, List.setIfInBounds_toArray, List.set_cons_zero, List.set_cons_succ]
           refine wpAnyH_take (i := 20) (v := undef) rfl (by kernel_rfl) (by kernel_rfl) (by kernel_rfl) (fun _ _ _ h => h) (Or.inr ⟨by kernel_rfl, rfl⟩) (by assumption) ?_
           try simp only [Act.put, List.setIfInBounds_toArray, List.set_cons_zero, List.set_cons_succ]
           refine wpAnyH_take (i := 21) (v := undef) rfl (by kernel_rfl) (by kernel_rfl) (by kernel_rfl) (fun _ _ _ h => h) (Or.inr ⟨by kernel_rfl, rfl⟩) (by assumption) ?_
           try simp only [Act.put, List.setIfInBounds_toArray, List.set_cons_zero, List.set_cons_succ]
           refine wpAnyH_take (i := 22) (v := undef) rfl (by kernel_rfl) (by kernel_rfl) (by kernel_rfl) (fun _ _ _ h => h) (Or.inr ⟨by kernel_rfl, rfl⟩) (by assumption) ?_
           try simp only [Act.put, List.setIfInBounds_toArray, List.set_cons_zero, List.set_cons_succ]
           refine wpAnyH_take (i := 23) (v := undef) rfl (by kernel_rfl) (by kernel_rfl) (by kernel_rfl) (fun _ _ _ h => h) (Or.inr ⟨by kernel_rfl, rfl⟩) (by assumption) ?_
           try simp only [Act.put, List.setIfInBounds_toArray, List.set_cons_zero, List.set_cons_succ]
           refine wpAnyH_take (i := 24) (v := undef) rfl (by kernel_rfl) (by kernel_rfl) (by kernel_rfl) (fun _ _ _ h => h) (Or.inr ⟨by kernel_rfl, rfl⟩) (by assumption) ?_
           try simp only [Act.put, List.setIfInBounds_toArray, List.set_cons_zero, List.set_cons_succ]
           refine wpAnyH_take (i := 25) (v := undef) rfl (by kernel_rfl) (by kernel_rfl) (by kernel_rfl) (fun _ _ _ h => h) (Or.inr ⟨by kernel_rfl, rfl⟩) (by assumption) ?_
           try simp only [Act.put, List.setIfInBounds_toArray, List.set_cons_zero, List.set_cons_succ]
           refine wpAnyH_take (i := 26) (v := undef) rfl (by kernel_rfl) (by kernel_rfl) (by kernel_rfl) (fun _ _ _ h => h) (Or.inr ⟨by kernel_rfl, rfl⟩) (by assumption) ?_
           try simp only [Act.put, List.setIfInBounds_toArray, List.set_cons_zero, List.set_cons_succ]
           refine wpAnyH_take (i := 27) (v := ?_) rfl (by kernel_rfl) (by kernel_rfl) (by kernel_rfl) (fun _ _ _ h => h) ?_ (by assumption) ?_
           rotate_left
           · refine Or.inl ⟨by kernel_rfl, ?_⟩
             intro w hSw
             (try dsimp only at hSw)
             first
               | (go_simp; done)
               | (go_simp; with_reducible rfl)
           try simp only [Act.put, List.setIfInBounds_toArray, List.set_cons_zero, List.set_cons_succ]
           refine wpAnyH_take (i := 28) (v := ?_) rfl (by kernel_rfl) (by kernel_rfl) (by kernel_rfl) (fun _ _ _ h => h) ?_ (by assumption) ?_
           rotate_left
           · refine Or.inl ⟨by kernel_rfl, ?_⟩
             intro w hSw
             (try dsimp only at hSw)
             first
               | (go_simp; done)
               | (go_simp; with_reducible rfl)
           try simp only [Act.put, List.setIfInBounds_toArray, List.set_cons_zero, List.set_cons_succ]
           refine wpAnyH_take (i := 29) (v := ?_) rfl (by kernel_rfl) (by kernel_rfl) (by kernel_rfl) (fun _ _ _ h => h) ?_ (by assumption) ?_
           rotate_left
           · refine Or.inl ⟨by kernel_rfl, ?_⟩
             intro w hSw
             (try dsimp only at hSw)
             first
               | (go_simp; done)
               | (go_simp; with_reducible rfl)
           try simp only [Act.put, List.setIfInBounds_toArray, List.set_cons_zero, List.set_cons_succ]
           refine wpAnyH_take (i := 30) (v := ?_) rfl (by kernel_rfl) (by kernel_rfl) (by kernel_rfl) (fun _ _ _ h => h) ?_ (by assumption) ?_
           rotate_left
           · refine Or.inl ⟨by kernel_rfl, ?_⟩
             intro w hSw
             (try dsimp only at hSw)
             first
               | (go_simp; done)
               | (go_simp; with_reducible rfl)
           try simp only [Act.put, List.setIfInBounds_toArray, List.set_cons_zero, List.set_cons_succ]
           refine wpAnyH_take (i := 32) (v := ?_) rfl (by kernel_rfl) (by kernel_rfl) (by kernel_rfl) (fun _ _ _ h => h) ?_ (by assumption) ?_
           rotate_left
           · refine Or.inl ⟨by kernel_rfl, ?_⟩
             intro w hSw
             (try dsimp only at hSw)
             first
               | (go_simp; done)
               | (go_simp; with_reducible rfl)
           try simp only [Act.put, List.setIfInBounds_toArray, List.set_cons_zero, List.set_cons_succ]
           refine wpAnyH_take (i := 33) (v := ?_) rfl (by kernel_rfl) (by kernel_rfl) (by kernel_rfl) (fun _ _ _ h => h) ?_ (by assumption) ?_
           rotate_left
           · refine Or.inl ⟨by kernel_rfl, ?_⟩
             intro w hSw
             (try dsimp only at hSw)
             first
               | (go_simp; done)
               | (go_simp; with_reducible rfl)
           try simp only [Act.put, List.setIfInBounds_toArray, List.set_cons_zero, List.set_cons_succ]
           refine wpAnyH_ready (rs := [31]) (by kernel_rfl) (by simp) ?_
           refine AllReadyH.cons rfl (fun Kq hKq => ?_) AllReadyH.nil
           go_simp
           refine (HS1.out _ kk).mono ?_
           rintro e w5 ⟨rfl, hb5⟩
           replace kk := kk.trans (hb5.mono kk.size)
           clear hb5
           go_wp2_with fail
           refine hKq.out _ _ ?_ (fun hHeld => ?_)
           · exact ⟨(kk.cell (p := ⟨w.heap.size, 0, none⟩) y1).trans c0, (kk.cell (p := ⟨w.heap.size, 1, none⟩) y1).trans c1, (kk.cell (p := ⟨w.heap.size, 2, none⟩) y1).trans c2, (kk.cell (p := ⟨w.heap.size + 1, 0, none⟩) y2).trans t0, (kk.cell (p := ⟨w.heap.size + 1, 1, none⟩) y2).trans t1, (kk.cell (p := ⟨w.heap.size + 1, 2, none⟩) y2).trans t2⟩
           clear hKq Kq
           try simp only [Act.put, List.setIfInBounds_toArray, List.set_cons_zero, List.set_cons_succ]
           refine wpAnyH_ready (rs := [34]) (by kernel_rfl) (by simp) ?_
           refine AllReadyH.cons rfl (fun Kq hKq => ?_) AllReadyH.nil
           go_simp
           refine (HS2.out _ kk).mono ?_
           rintro e w5 ⟨rfl, hb5⟩
           replace kk := kk.trans (hb5.mono kk.size)
           clear hb5
           go_wp2_with fail
           refine hKq.out _ _ ?_ (fun hHeld => ?_)
           · exact ⟨(kk.cell (p := ⟨w.heap.size, 0, none⟩) y1).trans c0, (kk.cell (p := ⟨w.heap.size, 1, none⟩) y1).trans c1, (kk.cell (p := ⟨w.heap.size, 2, none⟩) y1).trans c2, (kk.cell (p := ⟨w.heap.size + 1, 0, none⟩) y2).trans t0, (kk.cell (p := ⟨w.heap.size + 1, 1, none⟩) y2).trans t1, (kk.cell (p := ⟨w.heap.size + 1, 2, none⟩) y2).trans t2⟩
           clear hKq Kq
           try simp only [Act.put, List.setIfInBounds_toArray, List.set_cons_zero, List.set_cons_succ]
           refine wpAnyH_take (i := 35) (v := ?_) rfl (by kernel_rfl) (by kernel_rfl) (by kernel_rfl) (fun _ _ _ h => h) ?_ (by assumption) ?_
           rotate_left
           · refine Or.inl ⟨by kernel_rfl, ?_⟩
             intro w hSw
             (try dsimp only at hSw)
             first
               | (go_simp; done)
               | (go_simp; with_reducible rfl)
           try simp only [Act.put, List.setIfInBounds_toArray, List.set_cons_zero, List.set_cons_succ]
           refine wpAnyH_take (i := 36) (v := ?_) rfl (by kernel_rfl) (by kernel_rfl) (by kernel_rfl) (fun _ _ _ h => h) ?_ (by assumption) ?_
           rotate_left
           · refine Or.inl ⟨by kernel_rfl, ?_⟩
             intro w hSw
             (try dsimp only at hSw)
             first
               | (go_simp; done)
               | (go_simp; with_reducible rfl)
           try simp only [Act.put, List.setIfInBounds_toArray, List.set_cons_zero, List.set_cons_succ]
           refine wpAnyH_take (i := 37) (v := ?_) rfl (by kernel_rfl) (by kernel_rfl) (by kernel_rfl) (fun _ _ _ h => h) ?_ (by assumption) ?_
           rotate_left
           · refine Or.inl ⟨by kernel_rfl, ?_⟩
             intro w hSw
             (try dsimp only at hSw)
             first
               | (go_simp; done)
               | (go_simp; with_reducible rfl)
           try simp only [Act.put, List.setIfInBounds_toArray, List.set_cons_zero, List.set_cons_succ]
           refine wpAnyH_take (i := 38) (v := ?_) rfl (by kernel_rfl) (by kernel_rfl) (by kernel_rfl) (fun _ _ _ h => h) ?_ (by assumption) ?_
           rotate_left
           · refine Or.inl ⟨by kernel_rfl, ?_⟩
             intro w hSw
             (try dsimp only at hSw)
             first
               | (go_simp; done)
               | (go_simp; with_reducible rfl)
           try simp only [Act.put, List.setIfInBounds_toArray, List.set_cons_zero, List.set_cons_succ]
           refine wpAnyH_take (i := 39) (v := ?_) rfl (by kernel_rfl) (by kernel_rfl) (by kernel_rfl) (fun _ _ _ h => h) ?_ (by assumption) ?_
           rotate_left
           · refine Or.inl ⟨by kernel_rfl, ?_⟩
             intro w hSw
             (try dsimp only at hSw)
             first
               | (go_simp; done)
               | (go_simp; with_reducible rfl)
           try simp only [Act.put, List.setIfInBounds_toArray, List.set_cons_zero, List.set_cons_succ]
           refine wpAnyH_take (i := 40) (v := ?_) rfl (by kernel_rfl) (by kernel_rfl) (by kernel_rfl) (fun _ _ _ h => h) ?_ (by assumption) ?_
           rotate_left
           · refine Or.inl ⟨by kernel_rfl, ?_⟩
             intro w hSw
             (try dsimp only at hSw)
             first
               | (go_simp; done)
               | (go_simp; with_reducible rfl)
           try simp only [Act.put, List.setIfInBounds_toArray, List.set_cons_zero, List.set_cons_succ]
           refine wpAnyH_take (i := 41) (v := ?_) rfl (by kernel_rfl) (by kernel_rfl) (by kernel_rfl) (fun _ _ _ h => h) ?_ (by assumption) ?_
           rotate_left
           · refine Or.inl ⟨by kernel_rfl, ?_⟩
             intro w hSw
             (try dsimp only at hSw)
             first
               | (go_simp; done)
               | (go_simp; with_reducible rfl)
           try simp only [Act.put, List.setIfInBounds_toArray, List.set_cons_zero, List.set_cons_succ]
           refine wpAnyH_ready (rs := [42]) (by kernel_rfl) (by simp) ?_
           refine AllReadyH.cons rfl (fun Kq hKq => ?_) AllReadyH.nil
           go_simp
           refine (HS1.out _ kk).mono ?_
           rintro e w5 ⟨rfl, hb5⟩
           replace kk := kk.trans (hb5.mono kk.size)
           clear hb5
           go_wp2_with fail
           refine hKq.out _ _ ?_ (fun hHeld => ?_)
           · exact ⟨(kk.cell (p := ⟨w.heap.size, 0, none⟩) y1).trans c0, (kk.cell (p := ⟨w.heap.size, 1, none⟩) y1).trans c1, (kk.cell (p := ⟨w.heap.size, 2, none⟩) y1).trans c2, (kk.cell (p := ⟨w.heap.size + 1, 0, none⟩) y2).trans t0, (kk.cell (p := ⟨w.heap.size + 1, 1, none⟩) y2).trans t1, (kk.cell (p := ⟨w.heap.size + 1, 2, none⟩) y2).trans t2⟩
           clear hKq Kq
           try simp only [Act.put, List.setIfInBounds_toArray, List.set_cons_zero, List.set_cons_succ]
           refine wpAnyH_take (i := 43) (v := ?_) rfl (by kernel_rfl) (by kernel_rfl) (by kernel_rfl) (fun _ _ _ h => h) ?_ (by assumption) ?_
           rotate_left
           · refine Or.inl ⟨by kernel_rfl, ?_⟩
             intro w hSw
             (try dsimp only at hSw)
             first
               | (go_simp; done)
               | (go_simp; with_reducible rfl)
           try simp only [Act.put, List.setIfInBounds_toArray, List.set_cons_zero, List.set_cons_succ]
           refine wpAnyH_take (i := 44) (v := ?_) rfl (by kernel_rfl) (by kernel_rfl) (by kernel_rfl) (fun _ _ _ h => h) ?_ (by assumption) ?_
           rotate_left
           · refine Or.inl ⟨by kernel_rfl, ?_⟩
             intro w hSw
             (try dsimp only at hSw)
             first
               | (go_simp; done)
               | (go_simp; with_reducible rfl)
           try simp only [Act.put, List.setIfInBounds_toArray, List.set_cons_zero, List.set_cons_succ]
           refine wpAnyH_done (by kernel_rfl) ?_ _
           have a1 := A1.out
           have a0 := A0.out
           have m1 := M1.out
           have m0 := M0.out
           clear A1 A0 M1 M0
           try simp only [Act.put, List.getElem_toArray, List.getElem_cons_succ, List.getElem_cons_zero, List.setIfInBounds_toArray, List.set_cons_zero, List.set_cons_succ]
           go_wp2_with fail
           first
             | (go_meet; exact ⟨rfl, kk⟩)
             | (rename_i f1 d1 h1 f2 d2 h2
                have e1 : d1 = 121 := (Option.some.inj h1).symm
                have e2 : d2 = 120 := (Option.some.inj h2).symm
                subst e1; subst e2
                try simp only [Act.put, List.setIfInBounds_toArray, List.set_cons_zero, List.set_cons_succ]
                go_meet
                exact ⟨rfl, kk⟩)
end Go.Proofs.YtmijalhilalaoaaDoor
