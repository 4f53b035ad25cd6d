/- Assemble and Names against the reference: the walks of AssemblerAssembles and AssemblerNames. -/
import Derived.Test.YtlbhggjkcfcobaaDoorHl
import Derived.Test.YtlbhggjkcfcobaaDoorGm
namespace Go.Proofs.YtlbhggjkcfcobaaDoor
open Go.RowKit Go.Proofs
set_option linter.unusedVariables false

/-- the program, the place, the error, the names of a reading. -/
def prgR : AR → Prg
  | .bad _ _ => ⟨[], 0, []⟩
  | .ok s _ => prgOf s
def atR : AR → Int
  | .bad a _ => a
  | .ok _ _ => 0
def erR : AR → Int
  | .bad _ e => e
  | .ok _ _ => 0
def namR : AR → List (List UInt8)
  | .bad _ _ => []
  | .ok s _ => s.an ++ s.ln
theorem progs_nil (w : World) : Progs w none 0 0 0 none 0 0 ⟨[], 0, []⟩ := (RS.nil 0 w).progs (s := AS.start) Formed.start (fun k o _ h _ => h)
def AsmU (r : AR) (w : World) (e : Ending) (w' : World) : Prop := ∃ (A : Option Addr) (n c : Nat) (L : Int) (A' : Option Addr) (n' c' : Nat), e = .returned (.tuple #[.agg #[.slice A n c, .int .i64 L, .slice A' n' c'], .int .i64 (atR r), .int .i64 (erR r)]) ∧ Progs w' A n c L A' n' c' (prgR r) ∧ Below w.heap.size w w' ∧ n ≤ 100000 ∧ n' ≤ 100000
theorem AsmP.u {r : AR} {w w' : World} {e : Ending} (h : AsmP r w e w') (hF : ∀ s q, r = .ok s q → Formed s) : AsmU r w e w' := by
  cases r with
  | bad a er =>
    obtain ⟨h1, h2⟩ := h
    exact ⟨none, 0, 0, 0, none, 0, 0, h1, progs_nil _, h2, by omega, by omega⟩
  | ok s q =>
    obtain ⟨A, n, c, A', n', c', h1, h2, h3⟩ := h
    have F := hF s q rfl
    have e1 : s.arrs.length = n := h2.arrs.1
    have e2 : s.code.length = n' := h2.code.1
    have := F.few
    have := F.code
    exact ⟨A, n, c, _, A', n', c', h1, h2, h3, by omega, by omega⟩
def NamU (r : AR) (w : World) (e : Ending) (w' : World) : Prop := ∃ (A : Option Addr) (n c : Nat), e = .returned (.tuple #[.slice A n c, .int .i64 (atR r), .int .i64 (erR r)]) ∧ StrsM w' A n c (namR r) ∧ Below w.heap.size w w' ∧ n ≤ 100000
theorem NamP.u {r : AR} {w w' : World} {e : Ending} (h : NamP r w e w') (hF : ∀ s q, r = .ok s q → Formed s) : NamU r w e w' := by
  cases r with
  | bad a er =>
    obtain ⟨h1, h2⟩ := h
    exact ⟨none, 0, 0, h1, (OwnS.nil encSt 1 w' 0 9).toStrs, h2, by omega⟩
  | ok s q =>
    obtain ⟨A, n, c, h1, h2, h3⟩ := h
    have F := hF s q rfl
    have e1 := h2.1
    rw [List.length_append] at e1
    have := F.few
    have := F.an
    have := F.locs
    exact ⟨A, n, c, h1, h2, h3, by omega⟩
theorem asmU_any (src : List UInt8) (w : World) (hs : src.length ≤ 100000000) (hE : ErrR w) : Calls Tryd.prog 12 #[.string (strB src)] w (AsmU (readL src) w) :=
  (assemble_any src w hs hE).mono fun e w' h => h.u (fun s q hq => readL_formed hq)
theorem refU_any (src : List UInt8) (w : World) (hs : src.length ≤ 100000000) : Calls Tryd.prog 13 #[.string (strB src)] w (AsmU (readL src) w) :=
  (refAsm_any src w hs).mono fun e w' h => h.u (fun s q hq => readL_formed hq)
theorem namU_any (src : List UInt8) (w : World) (hs : src.length ≤ 100000000) (hE : ErrR w) : Calls Tryd.prog 15 #[.string (strB src)] w (NamU (readL src) w) :=
  (names_any src w hs hE).mono fun e w' h => h.u (fun s q hq => readL_formed hq)
theorem refNamU_any (src : List UInt8) (w : World) (hs : src.length ≤ 100000000) : Calls Tryd.prog 16 #[.string (strB src)] w (NamU (readL src) w) :=
  (refNames_any src w hs).mono fun e w' h => h.u (fun s q hq => readL_formed hq)
theorem sameP_self (p : Prg) : sameP p p = true := by unfold sameP; simp

set_option maxRecDepth 100000 in
set_option maxHeartbeats 4000000 in
theorem assembles_any (src : List UInt8) (w : World) (hl : src.length < 9223372036854775808) (hE : ErrR w) : Calls Tryd.prog 3 #[.string (strB src)] w (RetB w true) := by
  have HF := few_any src w hl
  have HE := Lib.hid hE
  clear hE
  cases hf : fewN src.length with
  | false =>
    rw [hf] at HF
    have HF' := Lib.hid HF
    clear HF hf
    go_enter Tryd.func3, Tryd.ntmps3
    go_wp2_with fail
    refine HF'.out.mono ?_
    rintro e w1 ⟨rfl, hw1⟩
    obtain rfl : w = w1 := hw1.symm
    go_wp2_with fail
    refine (awake_any w HE.out).mono ?_
    rintro e w1 ⟨rfl, hb1⟩
    go_wp2_with fail
    go_ret
    exact ⟨rfl, hb1⟩
  | true =>
    rw [hf] at HF
    have HF' := Lib.hid HF
    have hsz : src.length ≤ 100000000 := by unfold fewN at hf; simp at hf; omega
    have HA := Lib.hid (asmU_any src w hsz HE.out)
    have HB := Lib.hid (fun W => refU_any src W hsz)
    obtain ⟨r, hr⟩ : ∃ r, r = readL src := ⟨_, rfl⟩
    rw [← hr] at HA HB
    clear HF hf hr
    go_enter Tryd.func3, Tryd.ntmps3
    go_wp2_with fail
    refine HF'.out.mono ?_
    rintro e w1 ⟨rfl, hw1⟩
    obtain rfl : w = w1 := hw1.symm
    go_wp2_with fail
    refine HA.out.mono ?_
    rintro e w1 ⟨A, n, c, L, A', n', c', rfl, hp1, hb1, hn, hn'⟩
    have rp := rowV.new w1 27 #[.slice A n c, .int .i64 L, .slice A' n' c']
    have g2 := (Below.refl w1.heap.size w1).alloc (Nat.le_refl _) (.cells #[.slice A n c, .int .i64 L, .slice A' n' c'] 27)
    have b2 := hb1.trans (g2.mono hb1.size)
    have hp2 := hp1.below g2
    obtain ⟨wa, hwa⟩ : ∃ wa, wa = w1.alloc (.cells #[.slice A n c, .int .i64 L, .slice A' n' c'] 27) := ⟨_, rfl⟩
    rw [← hwa] at rp b2 hp2
    have H1 := Lib.hid (And.intro rp (And.intro b2 hp2))
    have HWA := Lib.hid hwa
    clear rp g2 b2 hp2 hp1 hb1 hwa HF' HA
    go_wp2_with fail
    rw [← HWA.out]
    refine (HB.out wa).mono ?_
    rintro e w2 ⟨D, m, d, M, D', m', d', rfl, hq1, hb3, hm, hm'⟩
    have rq := rowV.new w2 27 #[.slice D m d, .int .i64 M, .slice D' m' d']
    have g3 := (Below.refl w2.heap.size w2).alloc (Nat.le_refl _) (.cells #[.slice D m d, .int .i64 M, .slice D' m' d'] 27)
    have gab := hb3.trans (g3.mono hb3.size)
    have H2 := And.intro rq (And.intro (hq1.below g3) (And.intro (H1.out.1.below gab H1.out.1.lt) (And.intro (H1.out.2.2.below gab) (H1.out.2.1.trans (gab.mono H1.out.2.1.size)))))
    obtain ⟨wb, hwb⟩ : ∃ wb, wb = w2.alloc (.cells #[.slice D m d, .int .i64 M, .slice D' m' d'] 27) := ⟨_, rfl⟩
    rw [← hwb] at H2
    have H2 := Lib.hid H2
    have HWB := Lib.hid hwb
    clear rq g3 gab hq1 hb3 hwb H1 HWA HB
    go_wp2_with fail
    rw [← HWB.out]
    refine (awake_any wb (HE.out.below H2.out.2.2.2.2)).mono ?_
    rintro e w3 ⟨rfl, hb4⟩
    have H3 := And.intro (H2.out.2.2.1.below hb4 H2.out.2.2.1.lt) (And.intro (H2.out.1.below hb4 H2.out.1.lt) (And.intro (H2.out.2.2.2.1.below hb4) (And.intro (H2.out.2.1.below hb4) (H2.out.2.2.2.2.trans (hb4.mono H2.out.2.2.2.2.size)))))
    obtain ⟨p0, p1, p2⟩ := three_cellsV H3.1
    obtain ⟨t0, t1, t2⟩ := three_cellsV H3.2.1
    have HS := Lib.hid (same15_any A A' n c n' c' L D D' m d m' d' M (prgR r) (prgR r) w3 H3.2.2.1 H3.2.2.2.1 hn hn')
    have HBL := Lib.hid H3.2.2.2.2
    clear H3 hb4 H2
    go_wp2_with fail
    refine HS.out.mono ?_
    rintro e w4 ⟨rfl, hb5⟩
    rw [sameP_self]
    have HBM := Lib.hid (HBL.out.trans (hb5.mono HBL.out.size))
    clear hb5
    go_wp2_with fail
    go_ret
    exact ⟨by simp, HBM.out⟩
set_option maxRecDepth 100000 in
set_option maxHeartbeats 4000000 in
theorem nameslaw_any (src : List UInt8) (w : World) (hl : src.length < 9223372036854775808) (hE : ErrR w) : Calls Tryd.prog 4 #[.string (strB src)] w (RetB w true) := by
  have HF := few_any src w hl
  have HE := Lib.hid hE
  clear hE
  cases hf : fewN src.length with
  | false =>
    rw [hf] at HF
    have HF' := Lib.hid HF
    clear HF hf
    go_enter Tryd.func4, Tryd.ntmps4
    go_wp2_with fail
    refine HF'.out.mono ?_
    rintro e w1 ⟨rfl, hw1⟩
    obtain rfl : w = w1 := hw1.symm
    go_wp2_with fail
    refine (awake_any w HE.out).mono ?_
    rintro e w1 ⟨rfl, hb1⟩
    go_wp2_with fail
    go_ret
    exact ⟨rfl, hb1⟩
  | true =>
    rw [hf] at HF
    have HF' := Lib.hid HF
    have hsz : src.length ≤ 100000000 := by unfold fewN at hf; simp at hf; omega
    have HA := Lib.hid (namU_any src w hsz HE.out)
    have HB := Lib.hid (fun W => refNamU_any src W hsz)
    obtain ⟨r, hr⟩ : ∃ r, r = readL src := ⟨_, rfl⟩
    rw [← hr] at HA HB
    clear HF hf hr
    go_enter Tryd.func4, Tryd.ntmps4
    go_wp2_with fail
    refine HF'.out.mono ?_
    rintro e w1 ⟨rfl, hw1⟩
    obtain rfl : w = w1 := hw1.symm
    go_wp2_with fail
    refine HA.out.mono ?_
    rintro e w1 ⟨A, n, c, rfl, hp1, hb1, hn⟩
    have H1 := Lib.hid (And.intro hp1 hb1)
    clear hp1 hb1 HF' HA
    go_wp2_with fail
    refine (HB.out w1).mono ?_
    rintro e w2 ⟨D, m, d, rfl, hq1, hb3, hm⟩
    have H2 := Lib.hid (And.intro (H1.out.1.below hb3) (And.intro hq1 (H1.out.2.trans (hb3.mono H1.out.2.size))))
    clear hq1 hb3 H1 HB
    go_wp2_with fail
    refine (awake_any w2 (HE.out.below H2.out.2.2)).mono ?_
    rintro e w3 ⟨rfl, hb4⟩
    have HS : Hid (Calls Tryd.prog 17 #[.slice A n c, .slice D m d] w3 fun e w' => e = .returned (.bool true) ∧ Drawn w3 w') := (sameNames_any A D n c m d (namR r) (namR r) w3 (H2.out.1.below hb4) (H2.out.2.1.below hb4) hn).mono fun e w' h => ⟨h.1.trans (by simp), h.2⟩
    have HBL := Lib.hid (H2.out.2.2.trans (hb4.mono H2.out.2.2.size))
    clear hb4 H2
    go_wp2_with fail
    refine HS.out.mono ?_
    rintro e w4 ⟨rfl, hd5⟩
    have HBM := Lib.hid (HBL.out.trans ((hd5.below _).mono HBL.out.size))
    clear hd5
    go_wp2_with fail
    go_ret
    exact ⟨by simp, HBM.out⟩
end Go.Proofs.YtlbhggjkcfcobaaDoor
