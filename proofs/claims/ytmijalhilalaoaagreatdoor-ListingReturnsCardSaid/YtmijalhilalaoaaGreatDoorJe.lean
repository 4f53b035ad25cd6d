/- A source text that can be assembled becomes the same program again when its program is printed: the plain part and the walk of ListingReturns. -/
import Derived.Test.YtmijalhilalaoaaGreatDoorJd
namespace Go.Proofs.YtmijalhilalaoaaGreatDoor
open Go.RowKit Go.Proofs
set_option linter.unusedVariables false

theorem exAll_formed {s : AS} (F : Formed s) : exAll (prgOf s) = true := by
  refine exAll_true (fun j hj => ?_)
  have hi := F.ins _ (gI_mem (l := s.code) (k := j) hj)
  obtain ⟨h0, h1, h2, h3, h4, h5, h6, h7⟩ := hi
  show exL (s.ln.length : Int) s.arrs.length (gI s.code j) = true
  unfold exL
  by_cases c1 : (gI s.code j).op = 1 ∨ (gI s.code j).op = 2
  · rw [if_pos c1]; have := h5 c1; simp; omega
  · rw [if_neg c1]
    by_cases c2 : (gI s.code j).op = 3 ∨ (gI s.code j).op = 4
    · rw [if_pos c2]; have := h6 c2; simp; omega
    · rw [if_neg c2]
theorem nlAll_len_le {C : Nat} : ∀ {l : List (List UInt8)}, (∀ x ∈ l, x.length + 1 ≤ C) → (nlAll l).length ≤ C * l.length
  | [], _ => Nat.zero_le _
  | x :: l, h => by
    have := nlAll_len_le (l := l) (fun y hy => h y (by simp [hy]))
    have := h x (by simp)
    rw [nlAll_cons, List.length_append, List.length_cons, List.length_cons, Nat.mul_succ]
    omega
theorem nlAll_len_app (x y : List (List UInt8)) : (nlAll (x ++ y)).length = (nlAll x).length + (nlAll y).length := by rw [nlAll_append, List.length_append]
theorem name_len : ∀ k : Fin 36, (opO k.val).name.length ≤ 12 := by decide +kernel
theorem lineL_len {i : Ins} (h : InsOkT i) (ha : i.arg < 4294967296) : (lineL i).length ≤ 24 := by
  have h36 : i.op.toNat < 36 := by have := h.1; have := h.2.1; omega
  have h1 := name_len ⟨i.op.toNat, h36⟩
  dsimp only at h1
  have hd : (decI i.arg).length ≤ 10 := decS_len 9 _ (by have := h.2.2.1; omega)
  have ho : (operL i).length ≤ 12 := by
    unfold operL
    split
    · simp; omega
    · split
      · simp; omega
      · split
        · simp; omega
        · simp
  unfold lineL
  rw [opX_ok h, List.length_append]
  omega
theorem rows_len {p : Prg} (hk : PrgOk p) (ha : ∀ i ∈ p.code, i.arg < 4294967296) : ∀ k, k ≤ p.code.length → (nlAll (rowsTo p.code k)).length ≤ k * k + 25 * k
  | 0, _ => Nat.zero_le _
  | k + 1, h => by
    have ih := rows_len hk ha k (by omega)
    have hm := gI_mem (l := p.code) (k := k) (by omega)
    have hl := lineL_len (hk.code _ hm) (ha _ hm)
    have hd : dSp (dAt p.code k) (gI p.code k).op ≤ k := by
      have := dAt_le p.code k
      unfold dSp
      split <;> omega
    have e : (k + 1) * (k + 1) = k * k + 2 * k + 1 := by rw [Nat.add_mul, Nat.mul_add]; omega
    rw [rowsTo_succ, nlAll_len_app, nlAll_one, List.length_append]
    have er : (rowL p.code k).length ≤ 2 * k + 24 := by
      unfold rowL spL
      rw [List.length_append, List.length_replicate]
      omega
    simp only [List.length_singleton]
    omega
/-- the text of a program of up to sixty instructions is not too long. -/
theorem textL_short {p : Prg} (hf : formE p = 0) (ha : ∀ i ∈ p.code, 0 ≤ i.arg ∧ i.arg < 4294967296) (hc : p.code.length ≤ 60) : (textL p).length ≤ 8192 := by
  obtain ⟨f1, f2, f3, f4, f5, f6⟩ := formE_ok hf
  have hk := prgOk_of hf (fun i hi => (ha i hi).1)
  have h1 : (nlAll (arrsTo p.arrs p.arrs.length)).length ≤ 20 * 8 := by
    refine Nat.le_trans (nlAll_len_le (C := 20) (fun x hx => ?_)) (Nat.mul_le_mul_left 20 (by unfold arrsTo; simp; omega))
    obtain ⟨j, hj, rfl⟩ := List.mem_map.1 hx
    have hj := List.mem_range.1 hj
    have hs := f2 _ (gA_mem (l := p.arrs) (k := j) hj)
    have e1 : (decS j).length ≤ 1 := decS_len 0 _ (by omega)
    have e2 : (decI (gA p.arrs j).size).length ≤ 5 := decS_len 4 _ (by omega)
    have e3 : (kindT (gA p.arrs j).word).length = 5 := by cases (gA p.arrs j).word <;> rfl
    unfold arrL
    simp only [List.length_append, List.length_cons, List.length_nil]
    omega
  have h2 : (nlAll (locsTo p.locs.toNat)).length ≤ 20 * 16 := by
    refine Nat.le_trans (nlAll_len_le (C := 20) (fun x hx => ?_)) (Nat.mul_le_mul_left 20 (by unfold locsTo; simp; omega))
    obtain ⟨j, hj, rfl⟩ := List.mem_map.1 hx
    have hj := List.mem_range.1 hj
    have e1 : (decS j).length ≤ 2 := decS_len 1 _ (by omega)
    unfold locL
    simp only [List.length_append, List.length_cons, List.length_nil]
    omega
  have h3 := rows_len hk (fun i hi => (ha i hi).2) p.code.length (Nat.le_refl _)
  have h4 : p.code.length * p.code.length ≤ 60 * 60 := Nat.mul_le_mul hc hc
  unfold textL linesL declL
  rw [nlAll_len_app, nlAll_len_app]
  omega
theorem printE_fine {p : Prg} (h1 : formE p = 0) (h2 : exAll p = true) : printE p = if 8192 < (textL p).length then 5 else 0 := by
  unfold printE
  rw [if_neg (by simp [h1]), if_neg (by simp [h2])]
set_option maxRecDepth 100000 in
set_option maxHeartbeats 4000000 in
theorem listingReturns_any (src : List UInt8) (w : World) (hl : src.length < 9223372036854775808) (hT : TabI w) (hE : ErrR w) : Calls Tryz.prog 4 #[.string (strB src)] w (RetB w true) := by
  have sz : (strB src).size = src.length := strB_size' src
  have HTE := Lib.hid (And.intro hT hE)
  clear hT hE
  by_cases h1 : 1000 < src.length
  · have d1 : decide ((1000 : Int) < (src.length : Int)) = true := by simp; omega
    have d1' : decide (1000 < src.length) = true := by simp; omega
    go_enter Tryz.func4, Tryz.ntmps4
    go_wp2_with fail
    refine (awake_any w HTE.out.1).mono ?_
    rintro e w1 ⟨rfl, hb1⟩
    go_wp2_with fail
    go_ret
    exact ⟨rfl, hb1⟩
  have d1 : decide ((1000 : Int) < (src.length : Int)) = false := by simp; omega
  have d1' : decide (1000 < src.length) = false := by simp; omega
  have HR := assemble_any src w (by omega) HTE.out.2
  clear h1
  cases hr : readL src with
  | bad k er =>
    have hne := readL_ne hr
    rw [hr] at HR
    have HR' := Lib.hid HR
    have dne : (er != 0) = true := by simpa using hne
    clear HR hr hne
    go_enter Tryz.func4, Tryz.ntmps4
    go_wp2_with fail
    refine HR'.out.mono ?_
    rintro e w1 ⟨rfl, hb1⟩
    have H2 := Lib.hid (balloc hb1 (.cells #[.slice none 0 0, .int .i64 0, .slice none 0 0] 25))
    have H3 := Lib.hid (awake_any _ (HTE.out.1.below H2.out))
    clear hb1
    go_wp2_with fail
    refine H3.out.mono ?_
    rintro e w2 ⟨rfl, hb2⟩
    have H4 := Lib.hid (H2.out.trans (hb2.mono H2.out.size))
    clear hb2
    go_wp2_with fail
    go_ret
    exact ⟨rfl, H4.out⟩
  | ok s r =>
    have F := readL_formed hr
    rw [hr] at HR
    have HR' := Lib.hid HR
    have hfm := F.form
    have hex := exAll_formed F
    have hpe := printE_fine hfm hex
    have har : ∀ i ∈ (prgOf s).code, 0 ≤ i.arg ∧ i.arg < 4294967296 := fun i hi => ⟨(F.ins i hi).2.2.1, (F.ins i hi).2.2.2.1⟩
    have hn8 : s.arrs.length ≤ 8 := F.few
    have hn10 : s.code.length ≤ 1024 := F.code
    obtain ⟨p, hp⟩ : ∃ p, p = prgOf s := ⟨_, rfl⟩
    have ea : p.arrs.length = s.arrs.length := by rw [hp]; rfl
    have ec : p.code.length = s.code.length := by rw [hp]; rfl
    unfold AsmP at HR'
    have HR2 : Hid (Calls Tryz.prog 8 #[.string (strB src)] w fun e w' => ∃ A n c A' n' c', e = .returned (.tuple #[.agg #[.slice A n c, .int .i64 (s.ln.length : Int), .slice A' n' c'], .int .i64 0, .int .i64 0]) ∧ Progs w' A n c (s.ln.length : Int) A' n' c' p ∧ Below w.heap.size w w') := by rw [hp]; exact HR'
    rw [← hp] at hfm hex hpe har
    have HB : Hid (p.arrs.length ≤ 8 ∧ p.code.length ≤ 1024) := ⟨by omega, by omega⟩
    clear HR HR' hr F hp ea ec hn8 hn10
    by_cases hlong : 8192 < (textL p).length
    · rw [if_pos hlong] at hpe
      have hc60 : 60 < p.code.length := Nat.lt_of_not_le (fun hc => by have := textL_short hfm har hc; omega)
      have H60 := Lib.hid hc60
      have HPE := Lib.hid hpe
      clear hc60 hpe hlong hfm hex har
      go_enter Tryz.func4, Tryz.ntmps4
      go_wp2_with fail
      refine HR2.out.mono ?_
      rintro e w1 ⟨A, n, c, A', n', c', rfl, hp1, hb1⟩
      have rp := rowV.new w1 25 #[.slice A n c, .int .i64 (s.ln.length : Int), .slice A' n' c']
      have g2 := (Below.refl w1.heap.size w1).alloc (Nat.le_refl _) (.cells #[.slice A n c, .int .i64 (s.ln.length : Int), .slice A' n' c'] 25)
      have b2 := hb1.trans (g2.mono hb1.size)
      have hp2 := hp1.below g2
      obtain ⟨wa, hwa⟩ : ∃ wa, wa = w1.alloc (.cells #[.slice A n c, .int .i64 (s.ln.length : Int), .slice A' n' c'] 25) := ⟨_, rfl⟩
      rw [← hwa] at rp b2 hp2
      have H1 := Lib.hid (And.intro rp (And.intro b2 hp2))
      have HWA := Lib.hid hwa
      have HP := print_any A A' n c n' c' (s.ln.length : Int) p wa hp2 (HTE.out.1.below b2)
      rw [HPE.out] at HP
      replace HP := Lib.hid HP
      have e60 : (60 : Int) < (n' : Int) := by have := hp2.code.1; have := H60.out; omega
      have d6 : decide ((60 : Int) < (n' : Int)) = true := by simpa using e60
      have d6' : decide (60 < n') = true := by simp; omega
      clear g2 b2 hp1 hb1 hwa HR2 hp2 e60
      obtain ⟨p0, p1, p2⟩ := three_cellsV rp
      clear rp
      go_wp2_with fail
      rw [← HWA.out]
      go_wp2_with fail
      refine HP.out.mono ?_
      rintro e w2 ⟨rfl, hb2⟩
      have H3 := And.intro (H1.out.1.below hb2 H1.out.1.lt) (H1.out.2.1.trans (hb2.mono H1.out.2.1.size))
      clear p0 p1 p2
      obtain ⟨p0, p1, p2⟩ := three_cellsV H3.1
      have H4 := Lib.hid H3
      clear H3 hb2 HP
      go_wp2_with fail
      refine (awake_any w2 (HTE.out.1.below H4.out.2)).mono ?_
      rintro e w3 ⟨rfl, hb3⟩
      have H5 := And.intro (H4.out.1.below hb3 H4.out.1.lt) (H4.out.2.trans (hb3.mono H4.out.2.size))
      clear p0 p1 p2
      obtain ⟨p0, p1, p2⟩ := three_cellsV H5.1
      have H6 := Lib.hid H5
      clear H5 hb3
      go_wp2_with fail
      go_ret
      exact ⟨rfl, H6.out.2⟩
    · rw [if_neg hlong] at hpe
      obtain ⟨s2, r2, hrd, hps⟩ := textL_read hfm (fun i hi => (har i hi).1) hex (by omega)
      have H2 := Lib.hid (fun W h => assemble_any (textL p) W (by omega) h)
      rw [hrd] at H2
      have HPS := Lib.hid hps
      have HPT : Hid (printT p = textL p) := (printE_zero hpe).2.2.2
      have HPE := Lib.hid hpe
      clear hrd hps hpe hlong hfm hex har
      go_enter Tryz.func4, Tryz.ntmps4
      go_wp2_with fail
      refine HR2.out.mono ?_
      rintro e w1 ⟨A, n, c, A', n', c', rfl, hp1, hb1⟩
      have rp := rowV.new w1 25 #[.slice A n c, .int .i64 (s.ln.length : Int), .slice A' n' c']
      have g2 := (Below.refl w1.heap.size w1).alloc (Nat.le_refl _) (.cells #[.slice A n c, .int .i64 (s.ln.length : Int), .slice A' n' c'] 25)
      have b2 := hb1.trans (g2.mono hb1.size)
      have hp2 := hp1.below g2
      obtain ⟨wa, hwa⟩ : ∃ wa, wa = w1.alloc (.cells #[.slice A n c, .int .i64 (s.ln.length : Int), .slice A' n' c'] 25) := ⟨_, rfl⟩
      rw [← hwa] at rp b2 hp2
      have HN : Hid (n ≤ 100000 ∧ n' ≤ 100000) := ⟨by have := hp2.arrs.1; have := HB.out; omega, by have := hp2.code.1; have := HB.out; omega⟩
      have H1 := Lib.hid (And.intro rp (And.intro b2 hp2))
      have HWA := Lib.hid hwa
      have HP := print_any A A' n c n' c' (s.ln.length : Int) p wa hp2 (HTE.out.1.below b2)
      rw [HPE.out, HPT.out] at HP
      replace HP := Lib.hid HP
      clear g2 b2 hp1 hb1 hwa HR2 hp2
      obtain ⟨T, hTe⟩ : ∃ T, T = textL p := ⟨_, rfl⟩
      rw [← hTe] at HP H2
      clear hTe
      obtain ⟨p0, p1, p2⟩ := three_cellsV rp
      clear rp
      go_wp2_with fail
      rw [← HWA.out]
      go_wp2_with fail
      refine HP.out.mono ?_
      rintro e w2 ⟨rfl, hb2⟩
      have H3 := Lib.hid (And.intro (H1.out.1.below hb2 H1.out.1.lt) (And.intro (H1.out.2.2.below hb2) (H1.out.2.1.trans (hb2.mono H1.out.2.1.size))))
      clear p0 p1 p2 hb2 HP
      go_wp2_with fail
      refine (H2.out w2 (HTE.out.2.below H3.out.2.2)).mono ?_
      rintro e w3 ⟨D, m, d, D', m', d', rfl, hq, hb3⟩
      rw [HPS.out] at hq
      have rq := rowV.new w3 25 #[.slice D m d, .int .i64 (s2.ln.length : Int), .slice D' m' d']
      have g3 := (Below.refl w3.heap.size w3).alloc (Nat.le_refl _) (.cells #[.slice D m d, .int .i64 (s2.ln.length : Int), .slice D' m' d'] 25)
      have gab := hb3.trans (g3.mono hb3.size)
      have HM : Hid (m ≤ 100000 ∧ m' ≤ 100000) := ⟨by have := hq.arrs.1; have := HB.out; omega, by have := hq.code.1; have := HB.out; omega⟩
      have H4 := And.intro rq (And.intro (hq.below g3) (And.intro (H3.out.1.below gab H3.out.1.lt) (And.intro (H3.out.2.1.below gab) (H3.out.2.2.trans (gab.mono H3.out.2.2.size)))))
      obtain ⟨wb, hwb⟩ : ∃ wb, wb = w3.alloc (.cells #[.slice D m d, .int .i64 (s2.ln.length : Int), .slice D' m' d'] 25) := ⟨_, rfl⟩
      rw [← hwb] at H4
      have H4 := Lib.hid H4
      have HWB := Lib.hid hwb
      clear rq g3 gab hq hb3 hwb H3 H2
      go_wp2_with fail
      rw [← HWB.out]
      refine (awake_any wb (HTE.out.1.below H4.out.2.2.2.2)).mono ?_
      rintro e w4 ⟨rfl, hb4⟩
      have H5 := And.intro (H4.out.1.below hb4 H4.out.1.lt) (And.intro (H4.out.2.1.below hb4) (And.intro (H4.out.2.2.1.below hb4 H4.out.2.2.1.lt) (And.intro (H4.out.2.2.2.1.below hb4) (H4.out.2.2.2.2.trans (hb4.mono H4.out.2.2.2.2.size)))))
      obtain ⟨p0, p1, p2⟩ := three_cellsV H5.2.2.1
      obtain ⟨t0, t1, t2⟩ := three_cellsV H5.1
      have HS := same_any A A' n c n' c' (s.ln.length : Int) D D' m d m' d' (s2.ln.length : Int) p p w4 H5.2.2.2.1 H5.2.1 HN.out.1 HM.out.1 HN.out.2 HM.out.2
      rw [sameB_refl] at HS
      replace HS := Lib.hid HS
      have HBL := Lib.hid H5.2.2.2.2
      clear H5 hb4 H4
      go_wp2_with fail
      refine HS.out.mono ?_
      rintro e w5 ⟨rfl, hb5⟩
      have HBM := Lib.hid (HBL.out.trans (hb5.mono HBL.out.size))
      clear hb5
      go_wp2_with fail
      go_ret
      exact ⟨by simp, HBM.out⟩
end Go.Proofs.YtmijalhilalaoaaGreatDoor
