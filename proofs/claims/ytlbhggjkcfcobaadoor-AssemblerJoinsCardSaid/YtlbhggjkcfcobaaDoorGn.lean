/- Walk of the law AssemblerJoins. -/
import Derived.Test.YtlbhggjkcfcobaaDoorGm
namespace Go.Proofs.YtlbhggjkcfcobaaDoor
open Go.RowKit Go.Proofs
set_option linter.unusedVariables false

theorem take_len {α : Type} {l p x : List α} (h : l = p ++ x) : l.take p.length = p := by rw [h]; simp
theorem run_cut2_h {t e : TypeId} {A : Option Addr} {n c : Nat} (ht : Tryd.prog.underlying t = some (.slice (Tryd.prog.elem t))) (he : Tryd.prog.elem t = e) (hs : ∀ W : World, (sizeOf e).run Tryd.prog W = .ok 2 W) (h : Int) (h0 : 0 ≤ h) (hc : h ≤ c) (W : World) :
    (Instr.slice t (.slice A n c) none (some (.int .i64 h)) none).run Tryd.prog W = .ok (.slice A h.toNat c) W := by
  subst he
  rw [run_slice_h W t A n c ht .i64 h h0 hc, hs W]
  simp only [Result.andThen, sliced, Nat.zero_mul, add_zero_map, ite_self, Nat.sub_zero]
theorem Arrs.cut {w : World} {A : Option Addr} {n c m : Nat} {l : List Arr} (h : Arrs w A n c l) (hm : m ≤ n) : Arrs w A m c (l.take m) := by
  refine ⟨by rw [List.length_take, h.1]; omega, by have := h.2.1; omega, fun x hx => h.2.2.1 x (List.mem_of_mem_take hx), fun hn => ?_⟩
  obtain ⟨b, off, hA, hlt, hc⟩ := h.2.2.2 (by omega)
  refine ⟨b, off, hA, hlt, fun i hi => ?_⟩
  have e : gA (l.take m) i = gA l i := by simp [gA, List.getD_eq_getElem?_getD, hi]
  have h2 := hc i (by omega)
  dsimp only at h2 ⊢
  rw [e]
  exact h2
theorem Codes.cut {w : World} {A : Option Addr} {n c m : Nat} {l : List Ins} (h : Codes w A n c l) (hm : m ≤ n) : Codes w A m c (l.take m) := by
  refine ⟨by rw [List.length_take, h.1]; omega, by have := h.2.1; omega, fun x hx => h.2.2.1 x (List.mem_of_mem_take hx), fun hn => ?_⟩
  obtain ⟨b, off, hA, hlt, hc⟩ := h.2.2.2 (by omega)
  refine ⟨b, off, hA, hlt, fun i hi => ?_⟩
  have e : gI (l.take m) i = gI l i := by simp [gI, List.getD_eq_getElem?_getD, hi]
  have h2 := hc i (by omega)
  dsimp only at h2 ⊢
  rw [e]
  exact h2
theorem uArr : Tryd.prog.underlying 24 = some (.slice (Tryd.prog.elem 24)) := by kernel_rfl
theorem uIns : Tryd.prog.underlying 25 = some (.slice (Tryd.prog.elem 25)) := by kernel_rfl
theorem cutArr {A : Option Addr} {n c m : Nat} (hm : m ≤ c) (W : World) : (Instr.slice 24 (.slice A n c) none (some (.int .i64 (m : Int))) none).run Tryd.prog W = .ok (.slice A m c) W :=
  run_cut2_h uArr (e := 47) (by kernel_rfl) (fun W => by kernel_rfl) (m : Int) (by omega) (by omega) W
theorem cutIns {A : Option Addr} {n c m : Nat} (hm : m ≤ c) (W : World) : (Instr.slice 25 (.slice A n c) none (some (.int .i64 (m : Int))) none).run Tryd.prog W = .ok (.slice A m c) W :=
  run_cut2_h uIns (e := 57) (by kernel_rfl) (fun W => by kernel_rfl) (m : Int) (by omega) (by omega) W

theorem asmE2_any (src : List UInt8) (w : World) (hs : src.length ≤ 100000000) (hE : ErrR w) : Calls Tryd.prog 12 #[.string (strB src)] w fun e w' => ∃ A n c, ∃ L : Int, ∃ A' n' c', ∃ k f : Int, e = .returned (.tuple #[.agg #[.slice A n c, .int .i64 L, .slice A' n' c'], .int .i64 k, .int .i64 f]) ∧ Below w.heap.size w w' := by
  refine (assemble_any src w hs hE).mono ?_
  cases readL src with
  | bad a er =>
    rintro e w' ⟨rfl, hb⟩
    exact ⟨_, _, _, _, _, _, _, _, _, rfl, hb⟩
  | ok s r =>
    rintro e w' ⟨A, n, c, A', n', c', rfl, hp, hb⟩
    exact ⟨_, _, _, _, _, _, _, _, _, rfl, hb⟩
set_option maxRecDepth 100000 in
set_option maxHeartbeats 4000000 in
theorem joins_any (a b : List UInt8) (w : World) (hla : a.length < 9223372036854775808) (hlb : b.length < 9223372036854775808) (hE : ErrR w) : Calls Tryd.prog 5 #[.string (strB a), .string (strB b)] w (RetB w true) := by
  have HE := Lib.hid hE
  have sa : (strB a).size = a.length := strB_size' a
  have sb : (strB b).size = b.length := strB_size' b
  clear hE
  by_cases h1 : 600 < a.length
  · have d1 : decide ((600 : Int) < (a.length : Int)) = true := by simp; omega
    have d1' : decide (600 < a.length) = true := by simp; omega
    go_enter Tryd.func5, Tryd.ntmps5
    go_wp2_with fail
    refine (awake_any w HE.out).mono ?_
    rintro e w1 ⟨rfl, hb1⟩
    go_wp2_with fail
    go_ret
    exact ⟨rfl, hb1⟩
  have d1 : decide ((600 : Int) < (a.length : Int)) = false := by simp; omega
  have d1' : decide (600 < a.length) = false := by simp; omega
  by_cases h2 : 600 < b.length
  · have d2 : decide ((600 : Int) < (b.length : Int)) = true := by simp; omega
    have d2' : decide (600 < b.length) = true := by simp; omega
    go_enter Tryd.func5, Tryd.ntmps5
    go_wp2_with fail
    refine (awake_any w HE.out).mono ?_
    rintro e w1 ⟨rfl, hb1⟩
    go_wp2_with fail
    go_ret
    exact ⟨rfl, hb1⟩
  have d2 : decide ((600 : Int) < (b.length : Int)) = false := by simp; omega
  have d2' : decide (600 < b.length) = false := by simp; omega
  have hx : strB a ++ (⟨#[10]⟩ : ByteArray) = strB (a ++ [10]) := strB_append a [10]
  have hy : strB (a ++ [10]) ++ strB b = strB (a ++ 10 :: b) := by rw [strB_append, List.append_assoc]; rfl
  have s3 : (strB (a ++ [10])).size = a.length + 1 := by rw [strB_size']; simp
  have s4 : (⟨#[10]⟩ : ByteArray).size = 1 := rfl
  have g1 : ¬ 9223372036854775807 < (strB a).size + (⟨#[10]⟩ : ByteArray).size := by rw [sa, s4]; omega
  have g2 : ¬ 9223372036854775807 < (strB (a ++ [10])).size + (strB b).size := by rw [s3, sb]; omega
  have HR := assemble_any a w (by omega) HE.out
  have HT := Lib.hid (fun W h => assemble_any (a ++ 10 :: b) W (by simp; omega) h)
  have HT2 := Lib.hid (fun W h => asmE2_any (a ++ 10 :: b) W (by simp; omega) h)
  have HU := Lib.hid (fun W h => assemble_any b W (by omega) h)
  have HA := Lib.hid (And.intro h1 h2)
  clear h1 h2 hla hlb
  cases hr : readL a with
  | bad k er =>
    have hne := readL_ne hr
    rw [hr] at HR
    have HR' := Lib.hid HR
    have dne : (er != 0) = true := by simpa using hne
    clear HR hr hne HT HU
    go_enter Tryd.func5, Tryd.ntmps5
    go_wp2_with fail
    refine HR'.out.mono ?_
    rintro e w1 ⟨rfl, hb1⟩
    have b2 := balloc hb1 (.cells #[.slice none 0 0, .int .i64 0, .slice none 0 0] 27)
    have H3 := HT2.out _ (HE.out.below b2)
    have H3 := Lib.hid H3
    have H2 := Lib.hid b2
    clear b2 hb1 HR' HT2
    go_wp2_with fail
    refine H3.out.mono ?_
    rintro e w2 ⟨B, m, d, M, B', m', d', kk, ee, rfl, hb2⟩
    have b4 := balloc (H2.out.trans (hb2.mono H2.out.size)) (.cells #[.slice B m d, .int .i64 M, .slice B' m' d'] 27)
    have H5 := Lib.hid (awake_any _ (HE.out.below b4))
    have H6 := Lib.hid b4
    clear b4 hb2 H2 H3
    go_wp2_with fail
    refine H5.out.mono ?_
    rintro e w3 ⟨rfl, hb3⟩
    have H7 := Lib.hid (H6.out.trans (hb3.mono H6.out.size))
    clear H5 H6 hb3
    go_wp2_with fail
    go_ret
    exact ⟨rfl, H7.out⟩
  | ok s r =>
    rw [hr] at HR
    have HR' := Lib.hid HR
    clear HR
    cases hr2 : readL (a ++ 10 :: b) with
    | bad k er =>
      have hne := readL_ne hr2
      have dne : (er != 0) = true := by simpa using hne
      have HT' : Hid (∀ W, ErrR W → Calls Tryd.prog 12 #[.string (strB (a ++ 10 :: b))] W (AsmP (.bad k er) W)) := fun W h => by
        have h9 := HT.out W h
        rwa [hr2] at h9
      clear hr hr2 hne HT HU HT2
      go_enter Tryd.func5, Tryd.ntmps5
      go_wp2_with fail
      refine HR'.out.mono ?_
      rintro e w1 ⟨A, n, c, A', n', c', rfl, hp1, hb1⟩
      have b2 := balloc hb1 (.cells #[.slice A n c, .int .i64 (s.ln.length : Int), .slice A' n' c'] 27)
      have H3 := Lib.hid (HT'.out _ (HE.out.below b2))
      have H2 := Lib.hid b2
      clear b2 hb1 HR' HT' hp1
      go_wp2_with fail
      refine H3.out.mono ?_
      rintro e w2 ⟨rfl, hb2⟩
      have b4 := balloc (H2.out.trans (hb2.mono H2.out.size)) (.cells #[.slice none 0 0, .int .i64 0, .slice none 0 0] 27)
      have H5 := Lib.hid (awake_any _ (HE.out.below b4))
      have H6 := Lib.hid b4
      clear b4 hb2 H2 H3
      go_wp2_with fail
      refine H5.out.mono ?_
      rintro e w3 ⟨rfl, hb3⟩
      have H7 := Lib.hid (H6.out.trans (hb3.mono H6.out.size))
      clear H5 H6 hb3
      go_wp2_with fail
      go_ret
      exact ⟨rfl, H7.out⟩
    | ok s2 r2 =>
      obtain ⟨⟨xa, q1⟩, ⟨xc, q2⟩, ⟨xl, q3⟩, q4⟩ := readL_join (by have := HA.out; omega) hr hr2
      have HT' : Hid (∀ W, ErrR W → Calls Tryd.prog 12 #[.string (strB (a ++ 10 :: b))] W (AsmP (.ok s2 r2) W)) := fun W h => by
        have h9 := HT.out W h
        rwa [hr2] at h9
      have hab := HA.out
      have HU' : Hid (∀ W, ErrR W → Calls Tryd.prog 12 #[.string (strB b)] W fun e w' => ∃ E x y E' x' y', ∃ L3 k3 er3 : Int, e = .returned (.tuple #[.agg #[.slice E x y, .int .i64 L3, .slice E' x' y'], .int .i64 k3, .int .i64 er3]) ∧ (er3 = 0 → s2.code.length = s.code.length + x' ∧ s2.arrs.length = s.arrs.length + x ∧ (s2.ln.length : Int) = (s.ln.length : Int) + L3) ∧ Below W.heap.size W w') := fun W h => by
        have h9 := assemble_any b W (by omega) h
        cases hr3 : readL b with
        | bad k3 e3 =>
          have hne := readL_ne hr3
          rw [hr3] at h9
          refine h9.mono ?_
          rintro e w' ⟨rfl, hb⟩
          exact ⟨_, _, _, _, _, _, _, _, _, rfl, fun h => absurd h hne, hb⟩
        | ok s3 r3 =>
          obtain ⟨c1, c2, c3⟩ := q4 s3 r3 hr3
          rw [hr3] at h9
          refine h9.mono ?_
          rintro e w' ⟨E, x, y, E', x', y', rfl, hp, hb⟩
          have e1 : s3.arrs.length = x := hp.arrs.1
          have e2 : s3.code.length = x' := hp.code.1
          exact ⟨_, _, _, _, _, _, _, _, _, rfl, fun _ => ⟨by omega, by omega, by omega⟩, hb⟩
      have hF := readL_formed hr
      have hF2 := readL_formed hr2
      have HQ := Lib.hid (And.intro q1 (And.intro q2 (And.intro hF.few hF.code)))
      have HQ2 := Lib.hid (And.intro hF2.few (And.intro hF2.code hF2.locs))
      clear hF hF2
      clear hr hr2 HT HT2 HU HA hab q1 q2 q3 q4
      go_enter Tryd.func5, Tryd.ntmps5
      go_wp2_with fail
      refine HR'.out.mono ?_
      rintro e w1 ⟨A, n, c, A', n', c', rfl, hp1, hb1⟩
      have rp := rowV.new w1 27 #[.slice A n c, .int .i64 (s.ln.length : Int), .slice A' n' c']
      have g2 := (Below.refl w1.heap.size w1).alloc (Nat.le_refl _) (.cells #[.slice A n c, .int .i64 (s.ln.length : Int), .slice A' n' c'] 27)
      have b2 := hb1.trans (g2.mono hb1.size)
      have hp2 := hp1.below g2
      obtain ⟨wa, hwa⟩ : ∃ wa, wa = w1.alloc (.cells #[.slice A n c, .int .i64 (s.ln.length : Int), .slice A' n' c'] 27) := ⟨_, rfl⟩
      rw [← hwa] at rp b2 hp2
      have H1 := Lib.hid (And.intro rp (And.intro b2 hp2))
      have HWA := Lib.hid hwa
      clear rp g2 b2 hp2 hp1 hb1 hwa HR'
      go_wp2_with fail
      rw [← HWA.out]
      refine (HT'.out wa (HE.out.below H1.out.2.1)).mono ?_
      rintro e w2 ⟨D, m, d, D', m', d', rfl, hq1, hb3⟩
      have rq := rowV.new w2 27 #[.slice D m d, .int .i64 (s2.ln.length : Int), .slice D' m' d']
      have g3 := (Below.refl w2.heap.size w2).alloc (Nat.le_refl _) (.cells #[.slice D m d, .int .i64 (s2.ln.length : Int), .slice D' m' d'] 27)
      have gab := hb3.trans (g3.mono hb3.size)
      have H2 := And.intro rq (And.intro (hq1.below g3) (And.intro (H1.out.1.below gab H1.out.1.lt) (And.intro (H1.out.2.2.below gab) (H1.out.2.1.trans (gab.mono H1.out.2.1.size)))))
      obtain ⟨wb, hwb⟩ : ∃ wb, wb = w2.alloc (.cells #[.slice D m d, .int .i64 (s2.ln.length : Int), .slice D' m' d'] 27) := ⟨_, rfl⟩
      rw [← hwb] at H2
      have H2 := Lib.hid H2
      have HWB := Lib.hid hwb
      clear rq g3 gab hq1 hb3 hwb H1 HWA HT'
      go_wp2_with fail
      rw [← HWB.out]
      refine (HU'.out wb (HE.out.below H2.out.2.2.2.2)).mono ?_
      rintro e w3 ⟨E, x, y, E', x', y', L3, k3, er3, rfl, hz, hb4⟩
      have rz := rowV.new w3 27 #[.slice E x y, .int .i64 L3, .slice E' x' y']
      have g4 := (Below.refl w3.heap.size w3).alloc (Nat.le_refl _) (.cells #[.slice E x y, .int .i64 L3, .slice E' x' y'] 27)
      have gbc := hb4.trans (g4.mono hb4.size)
      have H3 := And.intro (H2.out.2.2.1.below gbc H2.out.2.2.1.lt) (And.intro (H2.out.1.below gbc H2.out.1.lt) (And.intro rz (And.intro (H2.out.2.2.2.1.below gbc) (And.intro (H2.out.2.1.below gbc) (H2.out.2.2.2.2.trans (gbc.mono H2.out.2.2.2.2.size))))))
      obtain ⟨wc, hwc⟩ : ∃ wc, wc = w3.alloc (.cells #[.slice E x y, .int .i64 L3, .slice E' x' y'] 27) := ⟨_, rfl⟩
      rw [← hwc] at H3
      have HWC := Lib.hid hwc
      obtain ⟨p0, p1, p2⟩ := three_cellsV H3.1
      obtain ⟨t0, t1, t2⟩ := three_cellsV H3.2.1
      have en : s.arrs.length = n := H3.2.2.2.1.arrs.1
      have en' : s.code.length = n' := H3.2.2.2.1.code.1
      have em : s2.arrs.length = m := H3.2.2.2.2.1.arrs.1
      have em' : s2.code.length = m' := H3.2.2.2.2.1.code.1
      have hnm : n ≤ m := by rw [← en, ← em, HQ.out.1, List.length_append]; omega
      have hnm' : n' ≤ m' := by rw [← en', ← em', HQ.out.2.1, List.length_append]; omega
      have ta : s2.arrs.take n = s.arrs := by rw [← en]; exact take_len HQ.out.1
      have tc : s2.code.take n' = s.code := by rw [← en']; exact take_len HQ.out.2.1
      have hn8 : n ≤ 8 := by rw [← en]; exact HQ.out.2.2.1
      have hn10 : n' ≤ 1024 := by rw [← en']; exact HQ.out.2.2.2
      have hmd := H3.2.2.2.2.1.arrs.2.1
      have hmd' := H3.2.2.2.2.1.code.2.1
      have hcA := cutArr (A := D) (n := m) (c := d) (m := n) (by omega)
      have hcI := cutIns (A := D') (n := m') (c := d') (m := n') (by omega)
      have hpq : Progs wc D n d (s.ln.length : Int) D' n' d' (prgOf s) := by
        have i1 := H3.2.2.2.2.1.arrs.cut hnm
        have i2 := H3.2.2.2.2.1.code.cut hnm'
        have j1 : (prgOf s2).arrs.take n = s.arrs := ta
        have j2 : (prgOf s2).code.take n' = s.code := tc
        rw [j1] at i1
        rw [j2] at i2
        have hh := H3.2.2.2.1
        exact ⟨i1, hh.locs, i2, hh.wf⟩
      have HS := Lib.hid (fun nq => same15_any A A' n c n' c' (s.ln.length : Int) D D' n d n' d' (s.ln.length : Int) (prgOf s) (prgOf s) (wc.drewN nq) (H3.2.2.2.1.below ((Drawn.drewN wc nq).below _)) (hpq.below ((Drawn.drewN wc nq).below _)) (by omega) (by omega))
      have H4 := Lib.hid H3
      have hlt : decide ((m' : Int) < (n' : Int)) = false := by simp; omega
      have hlt' : decide (m' < n') = false := by simp; omega
      have hmin : min (n : Int) (m : Int) = (n : Int) := by omega
      have HZ : Hid (er3 = 0 → m' = n' + x' ∧ m = n + x ∧ (s2.ln.length : Int) = (s.ln.length : Int) + L3 ∧ m' ≤ 1024 ∧ m ≤ 8 ∧ (s2.ln.length : Int) ≤ 16) := fun h => by
        obtain ⟨a1, a2, a3⟩ := hz h
        obtain ⟨b1, b2, b3⟩ := HQ2.out
        exact ⟨by omega, by omega, a3, by omega, by omega, by omega⟩
      clear HQ2
      clear H3 hpq hmd hmd' hn8 hn10 ta tc en en' em em' HQ H2 HU' hwc hb4 rz g4 gbc hz
      go_wp2_with fail
      rw [← HWC.out]
      refine wp_region_quiet_tail 28 (by kernel_rfl) (by kernel_rfl) ?_
      simp only [List.take_succ_cons, List.take_zero, List.drop_succ_cons, List.drop_zero]
      repeat (go_big_quiet_step (fail))
      refine wpQuiet_nil ?_
      intro _ hw'
      obtain ⟨nq, hw''⟩ := hw'
      subst hw''
      have HS2 := HS.out nq
      have hsm : sameP (prgOf s) (prgOf s) = true := by unfold sameP; simp
      rw [hsm] at HS2
      have HS2 := Lib.hid HS2
      clear HS hsm p0 p1 p2 t0 t1 t2 hcA hcI
      go_wp2_with fail
      refine HS2.out.mono ?_
      rintro e w5 ⟨rfl, hb5⟩
      have gcd : Below wc.heap.size wc w5 := (((Drawn.drewN wc nq).below _).trans hb5)
      have r5 := And.intro (H4.out.1.below gcd H4.out.1.lt) (And.intro (H4.out.2.1.below gcd H4.out.2.1.lt) (And.intro (H4.out.2.2.1.below gcd H4.out.2.2.1.lt) (H4.out.2.2.2.2.2.trans (gcd.mono H4.out.2.2.2.2.2.size))))
      have H5 := Lib.hid r5
      have H6 := Lib.hid (awake_any w5 (HE.out.below r5.2.2.2))
      clear H4 HS2 hb5 gcd r5
      go_wp2_with fail
      refine H6.out.mono ?_
      rintro e w6 ⟨rfl, hb6⟩
      have H7 := Lib.hid (H5.out.2.2.2.trans (hb6.mono H5.out.2.2.2.size))
      by_cases h3 : er3 = 0
      · subst h3
        obtain ⟨z1, z2, z3, z4, z5, z6⟩ := HZ.out rfl
        obtain ⟨p0, p1, p2⟩ := three_cellsV (H5.out.1.below hb6 H5.out.1.lt)
        obtain ⟨t0, t1, t2⟩ := three_cellsV (H5.out.2.1.below hb6 H5.out.2.1.lt)
        obtain ⟨u0, u1, u2⟩ := three_cellsV (H5.out.2.2.1.below hb6 H5.out.2.2.1.lt)
        obtain ⟨la, hla⟩ : ∃ la : Nat, la = s.ln.length := ⟨_, rfl⟩
        obtain ⟨lb, hlb⟩ : ∃ lb : Nat, lb = s2.ln.length := ⟨_, rfl⟩
        rw [← hla] at p1 z3
        rw [← hlb] at t1 z3 z6
        have v1 : ((m' : Int) == (n' : Int) + (x' : Int)) = true := by simp; omega
        have v2 : ((m : Int) == (n : Int) + (x : Int)) = true := by simp; omega
        have v3 : ((lb : Int) == (la : Int) + L3) = true := by simp; omega
        have HV := Lib.hid z1
        clear H5 H6 HZ hb6 hla hlb HWB HWC hlt hlt' hmin
        go_wp2_with fail
        go_ret
        exact ⟨rfl, H7.out⟩
      · have d3 : (er3 != 0) = true := by simpa using h3
        clear H5 H6 HZ h3 hb6
        go_wp2_with fail
        go_ret
        exact ⟨rfl, H7.out⟩
end Go.Proofs.YtlbhggjkcfcobaaDoor
