/- The contract of the assembler's Assemble. The reference of layer 15: SameArrays, Same; of layer 16: SameNames. -/
import Derived.Test.YtlbhggjkcfcobaaDoorGh
namespace Go.Proofs.YtlbhggjkcfcobaaDoor
open Go.RowKit Go.Proofs
set_option linter.unusedVariables false

theorem stepL_ne {n : Nat} {w : Wd} {s : AS} {r : List Wd} {a : Nat} {e : Int} (h : stepL n w s r = .bad a e) : e ≠ 0 := by
  have arr : ∀ b, arrayL n b s r = .bad a e → e ≠ 0 := fun b h => by
    unfold arrayL at h
    dsimp only at h
    split at h
    · rename_i h1; injection h with _ h; rw [← h]; exact h1
    split at h
    · injection h with _ h; rw [← h]; decide
    split at h
    · rename_i h1; injection h with _ h; rw [← h]; exact h1
    split at h
    · injection h with _ h; rw [← h]; decide
    · cases h
  unfold stepL at h
  split at h
  · exact arr _ h
  split at h
  · exact arr _ h
  split at h
  · unfold localL at h
    dsimp only at h
    split at h
    · rename_i h1; injection h with _ h; rw [← h]; exact h1
    split at h
    · injection h with _ h; rw [← h]; decide
    · cases h
  split at h
  · unfold constL at h
    dsimp only at h
    split at h
    · rename_i h1; injection h with _ h; rw [← h]; exact h1
    split at h
    · rename_i h1; injection h with _ h; rw [← h]; exact h1
    · cases h
  rw [instrL_eq] at h
  split at h
  · injection h with _ h; rw [← h]; decide
  split at h
  · injection h with _ h; rw [← h]; decide
  split at h
  · split at h
    · rename_i h1; injection h with _ h; rw [← h]; exact h1
    · cases h
  · cases h
theorem readW_ne {n : Nat} : ∀ (f : Nat) (ws : List Wd) (s : AS) (a : Nat) (e : Int), ws.length < f → readW n s ws = .bad a e → e ≠ 0
  | 0, _, _, _, _, h, _ => by omega
  | f + 1, [], s, a, e, _, h => by rw [readW_nil] at h; cases h
  | f + 1, w :: t, s, a, e, hf, h => by
    cases hs : stepL n w s t with
    | bad a1 e1 => rw [readW_bad hs] at h; injection h with _ h; rw [← h]; exact stepL_ne hs
    | ok s1 r1 =>
      rw [readW_ok hs] at h
      have hl : r1.length ≤ t.length := by rw [(stepL_grew hs).1, List.length_drop]; omega
      exact readW_ne f r1 s1 a e (by simp at hf; omega) h
theorem readL_ne {src : List UInt8} {a : Nat} {e : Int} (h : readL src = .bad a e) : e ≠ 0 := by
  unfold readL at h
  split at h
  · injection h with _ h; rw [← h]; decide
  · exact readW_ne _ _ _ _ _ (Nat.lt_succ_self _) h
theorem OwnS.toCodes {w : World} {B : Nat} {A : Option Addr} {n c : Nat} {l : List Ins} (h : OwnS encIn 2 w B 57 A n c l) (hwf : ∀ x ∈ l, 0 ≤ x.arg ∧ x.arg < 4294967296 ∧ (Lit.int .i64 x.op).wf = true) : Codes w A n c l := by
  refine ⟨h.length (fun _ => rfl) (by decide), h.cap, hwf, fun hn => ?_⟩
  obtain ⟨b, hA, _, hlt, hc⟩ := h.get (fun _ => rfl) (by decide) (⟨0, 0⟩ : Ins) hn
  refine ⟨b, 0, hA, hlt, fun i hi => ⟨?_, ?_⟩⟩
  · have := hc i 0 (.int .i64 (gI l i).op) hi rfl
    simpa using this
  · have := hc i 1 (.int .u32 (gI l i).arg) hi rfl
    simpa using this
theorem RD.progs {B g n : Nat} {w : World} {s : AS} {ws : List Wd} {v : RVs} (h : RD B g n w s ws v) : Progs w v.Aa v.na v.ca (s.ln.length : Int) v.Ac v.nc v.cc (prgOf s) :=
  ⟨h.oa.toArrs (fun x hx => WalkArith.wf_i64 (by have := h.fm.sizes x hx; omega)), rfl, h.oc.toCodes (fun x hx => by
    obtain ⟨h1, h2, h3, h4, _⟩ := h.fm.ins x hx
    exact ⟨h3, h4, WalkArith.wf_i64 (by omega)⟩), WalkArith.wf_i64 (by have := h.fm.locs; omega)⟩
/-- what Assemble returns. -/
def AsmP (r : AR) (w : World) (e : Ending) (w' : World) : Prop := match r with
  | .bad a er => e = .returned (.tuple #[.agg #[.slice none 0 0, .int .i64 0, .slice none 0 0], .int .i64 (a : Int), .int .i64 er]) ∧ Below w.heap.size w w'
  | .ok s r => ∃ A n c A' n' c', e = .returned (.tuple #[.agg #[.slice A n c, .int .i64 (s.ln.length : Int), .slice A' n' c'], .int .i64 0, .int .i64 0]) ∧ Progs w' A n c (s.ln.length : Int) A' n' c' (prgOf s) ∧ Below w.heap.size w w'
theorem three_cellsV {w : World} {g : Nat} {t : TypeId} {a b c : Value} (h : rowV w g t #[a, b, c]) : w.cell? ⟨g, 0, none⟩ = some a ∧ w.cell? ⟨g, 1, none⟩ = some b ∧ w.cell? ⟨g, 2, none⟩ = some c := ⟨cell_rowV h rfl, cell_rowV h rfl, cell_rowV h rfl⟩
set_option maxRecDepth 100000 in
set_option maxHeartbeats 2000000 in
theorem assemble_any (src : List UInt8) (w : World) (hs : src.length ≤ 100000000) (hE : ErrR w) : Calls Tryd.prog 12 #[.string (strB src)] w (AsmP (readL src) w) := by
  have b0 := balloc (Below.refl w.heap.size w) (.cells #[.slice none 0 0, .int .i64 0, .slice none 0 0] 27)
  have rz := rowV.new w 27 #[.slice none 0 0, .int .i64 0, .slice none 0 0]
  have HR := read_any src (w.alloc (.cells #[.slice none 0 0, .int .i64 0, .slice none 0 0] 27)) hs (hE.below b0)
  obtain ⟨w0, hw0⟩ : ∃ w0, w0 = w.alloc (.cells #[.slice none 0 0, .int .i64 0, .slice none 0 0] 27) := ⟨_, rfl⟩
  rw [← hw0] at HR b0 rz
  have hlt0 : w.heap.size < w0.heap.size := rz.lt
  unfold ReadP at HR
  cases hr : readL src with
  | bad a er =>
    have hne := readL_ne hr
    rw [hr] at HR
    have HR' := Lib.hid HR
    have dne : (er != 0) = true := by simpa using hne
    clear HR hr hE hs
    go_enter Tryd.func12, Tryd.ntmps12
    go_wp2_with fail
    rw [← hw0]
    clear hw0
    refine HR'.out.mono ?_
    rintro e w1 ⟨rfl, hb1⟩
    have r1 := rz.below hb1 rz.lt
    obtain ⟨y0, y1, y2⟩ := three_cellsV r1
    have z0 := frozen_rowV' r1 0
    have z1 := frozen_rowV' r1 1
    have z2 := frozen_rowV' r1 2
    have HB := Lib.hid (b0.trans (hb1.mono b0.size))
    clear hb1 rz b0
    go_wp2_with fail
    have rz7 : rowV (((w1.setCell ⟨w.heap.size, 0, none⟩ (.slice none 0 0)).setCell ⟨w.heap.size, 1, none⟩ (.int .i64 0)).setCell ⟨w.heap.size, 2, none⟩ (.slice none 0 0)) w.heap.size 27 #[.slice none 0 0, .int .i64 0, .slice none 0 0] := ((r1.set 0 _).set 1 _).set 2 _
    obtain ⟨q0, q1, q2⟩ := three_cellsV rz7
    have hbW : Below w.heap.size w (((w1.setCell ⟨w.heap.size, 0, none⟩ (.slice none 0 0)).setCell ⟨w.heap.size, 1, none⟩ (.int .i64 0)).setCell ⟨w.heap.size, 2, none⟩ (.slice none 0 0)) := HB.out.trans ((Below.setG (Nat.le_refl _) _).trans ((Below.setG (Nat.le_refl _) _).trans (Below.setG (Nat.le_refl _) _)))
    refine bodyPost_ret (v := .tuple #[.agg #[.slice none 0 0, .int .i64 0, .slice none 0 0], .int .i64 (a : Int), .int .i64 er]) ?_ rfl ⟨rfl, hbW⟩
    simp [results, Tryd.results12, go_sem, q0, q1, q2]
  | ok s r =>
    rw [hr] at HR
    have HR' := Lib.hid HR
    clear HR hr hE hs
    go_enter Tryd.func12, Tryd.ntmps12
    go_wp2_with fail
    rw [← hw0]
    clear hw0
    refine HR'.out.mono ?_
    rintro e w1 ⟨g, B, v, rfl, hB, D, hb1⟩
    have r1 := rz.below hb1 rz.lt
    obtain ⟨y0, y1, y2⟩ := three_cellsV r1
    have z0 := frozen_rowV' r1 0
    have z1 := frozen_rowV' r1 1
    have z2 := frozen_rowV' r1 2
    have HB := Lib.hid (b0.trans (hb1.mono b0.size))
    have c2 : w1.cell? ⟨g, 2, none⟩ = some (.slice v.Aa v.na v.ca) := cell_rowV D.row rfl
    have c3 : w1.cell? ⟨g, 3, none⟩ = some (.int .i64 (s.ln.length : Int)) := cell_rowV D.row rfl
    have c4 : w1.cell? ⟨g, 4, none⟩ = some (.slice v.Ac v.nc v.cc) := cell_rowV D.row rfl
    have HD := Lib.hid D
    clear hb1 rz b0 D
    go_wp2_with fail
    have rz7 : rowV (((w1.setCell ⟨w.heap.size, 0, none⟩ (.slice v.Aa v.na v.ca)).setCell ⟨w.heap.size, 1, none⟩ (.int .i64 (s.ln.length : Int))).setCell ⟨w.heap.size, 2, none⟩ (.slice v.Ac v.nc v.cc)) w.heap.size 27 #[.slice v.Aa v.na v.ca, .int .i64 (s.ln.length : Int), .slice v.Ac v.nc v.cc] := ((r1.set 0 _).set 1 _).set 2 _
    obtain ⟨q0, q1, q2⟩ := three_cellsV rz7
    have hbW : Below w.heap.size w (((w1.setCell ⟨w.heap.size, 0, none⟩ (.slice v.Aa v.na v.ca)).setCell ⟨w.heap.size, 1, none⟩ (.int .i64 (s.ln.length : Int))).setCell ⟨w.heap.size, 2, none⟩ (.slice v.Ac v.nc v.cc)) := HB.out.trans ((Below.setG (Nat.le_refl _) _).trans ((Below.setG (Nat.le_refl _) _).trans (Below.setG (Nat.le_refl _) _)))
    have hlow : w.heap.size < B := Nat.lt_of_lt_of_le hlt0 hB
    have hkeep : ∀ k o, B ≤ k → w1.heap[k]? = some o → o.isCells = true → (((w1.setCell ⟨w.heap.size, 0, none⟩ (.slice v.Aa v.na v.ca)).setCell ⟨w.heap.size, 1, none⟩ (.int .i64 (s.ln.length : Int))).setCell ⟨w.heap.size, 2, none⟩ (.slice v.Ac v.nc v.cc)).heap[k]? = some o := fun k o hk ho _ => by
      have hne : k ≠ w.heap.size := by omega
      exact (Below.heap_setCell _ ⟨w.heap.size, 2, none⟩ _ k hne).trans ((Below.heap_setCell _ ⟨w.heap.size, 1, none⟩ _ k hne).trans ((Below.heap_setCell _ ⟨w.heap.size, 0, none⟩ _ k hne).trans ho))
    have F := HD.out.fm
    have hP : Progs (((w1.setCell ⟨w.heap.size, 0, none⟩ (.slice v.Aa v.na v.ca)).setCell ⟨w.heap.size, 1, none⟩ (.int .i64 (s.ln.length : Int))).setCell ⟨w.heap.size, 2, none⟩ (.slice v.Ac v.nc v.cc)) v.Aa v.na v.ca (s.ln.length : Int) v.Ac v.nc v.cc (prgOf s) :=
      ⟨(HD.out.oa.keep hkeep).toArrs (fun x hx => WalkArith.wf_i64 (by have := F.sizes x hx; omega)), rfl, (HD.out.oc.keep hkeep).toCodes (fun x hx => by
        obtain ⟨h1, h2, h3, h4, _⟩ := F.ins x hx
        exact ⟨h3, h4, WalkArith.wf_i64 (by omega)⟩), WalkArith.wf_i64 (by have := F.locs; omega)⟩
    refine bodyPost_ret (v := .tuple #[.agg #[.slice v.Aa v.na v.ca, .int .i64 (s.ln.length : Int), .slice v.Ac v.nc v.cc], .int .i64 0, .int .i64 0]) ?_ rfl ⟨_, _, _, _, _, _, rfl, hP, hbW⟩
    simp [results, Tryd.results12, go_sem, q0, q1, q2]
end Go.Proofs.YtlbhggjkcfcobaaDoor
namespace Go.Proofs.YtlbhggjkcfcobaaDoor
open Go.RowKit Go.Proofs
set_option linter.unusedVariables false

theorem stIn : Tryd.prog.stoodInHeld 57 = false := by kernel_rfl
theorem utIn : Tryd.prog.underlying 57 = some (.struct (Tryd.prog.fieldsOf 57)) := by kernel_rfl
theorem gdIn : Tryd.prog.eqGuardType Tryd.prog.depth 57 = false := by kernel_rfl
theorem stAr : Tryd.prog.stoodInHeld 47 = false := by kernel_rfl
theorem utAr : Tryd.prog.underlying 47 = some (.struct (Tryd.prog.fieldsOf 47)) := by kernel_rfl
theorem gdAr : Tryd.prog.eqGuardType Tryd.prog.depth 47 = false := by kernel_rfl
theorem neqIn (a b : Ins) (W : World) : (binOp .neq 57 (.agg #[.int .i64 a.op, .int .u32 a.arg]) (.agg #[.int .i64 b.op, .int .u32 b.arg])).run Tryd.prog W = .ok (.bool (!decide (a = b))) W := by
  obtain ⟨o1, x1⟩ := a
  obtain ⟨o2, x2⟩ := b
  rw [run_neq_struct, run_equalIn_agg W 9999 _ _ _ utIn stIn]
  by_cases h1 : o1 = o2
  · by_cases h2 : x1 = x2
    · subst h1 h2; simp [go_sem, part]
    · subst h1; simp [go_sem, part, h2]
  · simp [go_sem, part, h1]
theorem neqAr (a b : Arr) (W : World) : (binOp .neq 47 (.agg #[.bool a.word, .int .i64 a.size]) (.agg #[.bool b.word, .int .i64 b.size])).run Tryd.prog W = .ok (.bool (!decide (a = b))) W := by
  obtain ⟨o1, x1⟩ := a
  obtain ⟨o2, x2⟩ := b
  rw [run_neq_struct, run_equalIn_agg W 9999 _ _ _ utAr stAr]
  by_cases h1 : o1 = o2
  · by_cases h2 : x1 = x2
    · subst h1 h2; simp [go_sem, part]
    · subst h1; simp [go_sem, part, h2]
  · simp [go_sem, part, h1]
theorem ext_gA {l m : List Arr} (hl : l.length = m.length) (h : ∀ k, k < l.length → gA l k = gA m k) : l = m := by
  apply List.ext_getElem hl
  intro i h1 h2
  have := h i h1
  rwa [gA_get h1, gA_get h2] at this
theorem ext_gI {l m : List Ins} (hl : l.length = m.length) (h : ∀ k, k < l.length → gI l k = gI m k) : l = m := by
  apply List.ext_getElem hl
  intro i h1 h2
  have := h i h1
  rwa [gI_get h1, gI_get h2] at this
set_option maxRecDepth 100000 in
set_option maxHeartbeats 2000000 in
theorem sameArr_any (A D : Option Addr) (n c m d : Nat) (l q : List Arr) (w : World) (hx : Arrs w A n c l) (hy : Arrs w D m d q) (h1 : n ≤ 100000) :
    Calls Tryd.prog 30 #[.slice A n c, .slice D m d] w fun e w' => e = .returned (.bool (decide (l = q))) ∧ Drawn w w' := by
  have Hn := Lib.hid hx.1
  have Hm := Lib.hid hy.1
  obtain ⟨bb, hbb⟩ : ∃ bb, bb = decide (l = q) := ⟨_, rfl⟩
  rw [← hbb]
  have HBB := Lib.hid hbb
  clear hbb
  by_cases hl : n = m
  · subst hl
    go_enter Tryd.func30, Tryd.ntmps30
    go_wp2_with fail
    go_loopw [5] (fun i wr => ∃ k : Nat, k ≤ n ∧ i = .int .i64 (k : Int) ∧ Hid (∀ j, j < k → gA l j = gA q j) ∧ Drawn w wr) (fun i _ => n - (intOf i).toNat)
    case atStart => exact ⟨0, Nat.zero_le _, rfl, fun j hj => absurd hj (by omega), Drawn.refl _⟩
    case round =>
      obtain ⟨k, hk, rfl, HK, u, rfl⟩ := hrel
      by_cases hlt : k < n
      · have e1 : decide ((k : Int) < (n : Int)) = true := by simp; omega
        have e1' : decide (k < n) = true := by simp; omega
        obtain ⟨b, off, rfl, hbl, hcell⟩ := hx.get hlt
        obtain ⟨b2, off2, rfl, hbl2, hcell2⟩ := hy.get hlt
        obtain ⟨q1, q2⟩ := hcell k hlt
        obtain ⟨q3, q4⟩ := hcell2 k hlt
        have HS : Hid (gA l k ≠ gA q k → bb = false) := fun h => by rw [HBB.out]; exact decide_eq_false (fun e => h (by rw [e]))
        have HG : Hid (gA l k = gA q k → ∀ j, j < k + 1 → gA l j = gA q j) := fun h j hj => by
          rcases Nat.lt_or_ge j k with h1 | h1
          · exact HK.out j h1
          · obtain rfl : j = k := by omega
            exact h
        obtain ⟨x, hxe⟩ : ∃ x, x = gA l k := ⟨_, rfl⟩
        obtain ⟨y, hye⟩ : ∃ y, y = gA q k := ⟨_, rfl⟩
        rw [← hxe] at q1 q2 HS HG
        rw [← hye] at q3 q4 HS HG
        clear hxe hye hcell hcell2 HK
        obtain ⟨o1, x1⟩ := x
        obtain ⟨o2, x2⟩ := y
        dsimp only at q1 q2 q3 q4
        have u1 := stAr
        have u2 := utAr
        have u3 := gdAr
        have hq := neqAr ⟨o1, x1⟩ ⟨o2, x2⟩
        dsimp only at hq
        by_cases he : (⟨o1, x1⟩ : Arr) = ⟨o2, x2⟩
        · rw [decide_eq_true he] at hq
          have HG' := Lib.hid (HG.out he)
          clear HS HG
          go_wp2_with fail
          go_quiet (fail)
          go_wp2_with fail
          go_roundw
          case rel => exact ⟨k + 1, by omega, by go_num, HG'.out, ⟨_, rfl⟩⟩
          case measure => simp [intOf]; omega
        · rw [decide_eq_false he] at hq
          have Z := Lib.hid (HS.out he)
          clear HS HG
          go_wp2_with fail
          go_quiet (fail)
          go_wp2_with fail
          go_ret
          exact ⟨ret_bool Z.out.symm, (Drawn.drewN w u).step _⟩
      · have e1 : decide ((k : Int) < (n : Int)) = false := by simp; omega
        have e1' : decide (k < n) = false := by simp; omega
        have Z : Hid (bb = true) := by
          show _ = _
          rw [HBB.out]
          exact decide_eq_true (ext_gA (by rw [Hn.out, Hm.out]) (fun j hj => HK.out j (by rw [Hn.out] at hj; omega)))
        go_wp2_with fail
        go_ret
        exact ⟨ret_bool Z.out.symm, ⟨_, rfl⟩⟩
  · have hd : ((n : Int) != (m : Int)) = true := by simp; omega
    have Z : Hid (bb = false) := by
      show _ = _
      rw [HBB.out]
      exact decide_eq_false (fun e => hl (by rw [← Hn.out, ← Hm.out, e]))
    go_enter Tryd.func30, Tryd.ntmps30
    go_wp2_with fail
    go_ret
    exact ⟨ret_bool Z.out.symm, Drawn.refl _⟩
def sameP (p q : Prg) : Bool := decide (p.arrs = q.arrs) && decide (p.locs = q.locs) && decide (p.code = q.code)
set_option maxRecDepth 100000 in
set_option maxHeartbeats 2000000 in
theorem same15_any (A A' : Option Addr) (n c n' c' : Nat) (L : Int) (D D' : Option Addr) (m d m' d' : Nat) (M : Int) (p q : Prg) (w : World) (hx : Progs w A n c L A' n' c' p) (hy : Progs w D m d M D' m' d' q) (h1 : n ≤ 100000) (hn : n' ≤ 100000) :
    Calls Tryd.prog 14 #[.agg #[.slice A n c, .int .i64 L, .slice A' n' c'], .agg #[.slice D m d, .int .i64 M, .slice D' m' d']] w fun e w' => e = .returned (.bool (sameP p q)) ∧ Below w.heap.size w w' := by
  have Hn := Lib.hid hx.code.1
  have Hm := Lib.hid hy.code.1
  have HL := Lib.hid hx.locs
  have HM := Lib.hid hy.locs
  have b1 := balloc (Below.refl w.heap.size w) (.cells #[.slice A n c, .int .i64 L, .slice A' n' c'] 27)
  have g0 := balloc b1 (.cells #[.slice D m d, .int .i64 M, .slice D' m' d'] 27)
  have r1' := rowV.new w 27 #[.slice A n c, .int .i64 L, .slice A' n' c']
  have r1 := r1'.below (balloc (Below.refl _ _) (.cells #[.slice D m d, .int .i64 M, .slice D' m' d'] 27)) r1'.lt
  have r2 := rowV.new (w.alloc (.cells #[.slice A n c, .int .i64 L, .slice A' n' c'] 27)) 27 #[.slice D m d, .int .i64 M, .slice D' m' d']
  have es : (w.alloc (.cells #[.slice A n c, .int .i64 L, .slice A' n' c'] 27)).heap.size = w.heap.size + 1 := by simp
  rw [es] at r2
  obtain ⟨w0, hw0⟩ : ∃ w0, w0 = (w.alloc (.cells #[.slice A n c, .int .i64 L, .slice A' n' c'] 27)).alloc (.cells #[.slice D m d, .int .i64 M, .slice D' m' d'] 27) := ⟨_, rfl⟩
  rw [← hw0] at g0 r1 r2
  have hx0 := hx.below g0
  have hy0 := hy.below g0
  have HA := Lib.hid (sameArr_any A D n c m d p.arrs q.arrs w0 hx0.arrs hy0.arrs h1)
  obtain ⟨bb, hbb⟩ : ∃ bb, bb = sameP p q := ⟨_, rfl⟩
  rw [← hbb]
  have HBB : Hid (bb = (decide (p.arrs = q.arrs) && decide (p.locs = q.locs) && decide (p.code = q.code))) := hbb
  clear hbb es r1' b1
  obtain ⟨ba, hba⟩ : ∃ ba, ba = decide (p.arrs = q.arrs) := ⟨_, rfl⟩
  rw [← hba] at HA HBB
  clear hba
  by_cases hL : L = M
  · subst hL
    have hLp : Hid (decide (p.locs = q.locs) = true) := decide_eq_true (by rw [← HL.out, ← HM.out])
    have hd : (L != L) = false := by simp
    cases ba with
    | false =>
      have Z : Hid (bb = false) := by show _ = _; rw [HBB.out]; simp
      have HW := Lib.hid hw0
      clear hx0 hy0 hx hy hw0
      go_enter Tryd.func14, Tryd.ntmps14
      go_wp2_with fail
      rw [← HW.out]
      refine HA.out.mono ?_
      rintro e w1 ⟨rfl, u, rfl⟩
      go_wp2_with fail
      go_ret
      exact ⟨ret_bool Z.out.symm, bdrew g0 u⟩
    | true =>
      by_cases hl : n' = m'
      · subst hl
        have HW := Lib.hid hw0
        have hxc := hx0.code
        have hyc := hy0.code
        clear hx0 hy0 hx hy hw0
        go_enter Tryd.func14, Tryd.ntmps14
        go_wp2_with fail
        rw [← HW.out]
        refine HA.out.mono ?_
        rintro e w1 ⟨rfl, u0, rfl⟩
        obtain ⟨p0, p1, p2⟩ := three_cellsV r1
        obtain ⟨t0, t1, t2⟩ := three_cellsV r2
        go_wp2_with fail
        go_loopw [5] (fun i wr => ∃ k : Nat, k ≤ n' ∧ i = .int .i64 (k : Int) ∧ Hid (∀ j, j < k → gI p.code j = gI q.code j) ∧ Drawn w0 wr) (fun i _ => n' - (intOf i).toNat)
        case atStart => exact ⟨0, Nat.zero_le _, rfl, fun j hj => absurd hj (by omega), ⟨_, rfl⟩⟩
        case round =>
          obtain ⟨k, hk, rfl, HK, u, rfl⟩ := hrel
          by_cases hlt : k < n'
          · have e1 : decide ((k : Int) < (n' : Int)) = true := by simp; omega
            have e1' : decide (k < n') = true := by simp; omega
            obtain ⟨b, off, rfl, hbl, hcell⟩ := hxc.get hlt
            obtain ⟨b2, off2, rfl, hbl2, hcell2⟩ := hyc.get hlt
            obtain ⟨q1, q2⟩ := hcell k hlt
            obtain ⟨q3, q4⟩ := hcell2 k hlt
            have HS : Hid (gI p.code k ≠ gI q.code k → bb = false) := fun h => by rw [HBB.out, decide_eq_false (fun e : p.code = q.code => h (by rw [e]))]; simp
            have HG : Hid (gI p.code k = gI q.code k → ∀ j, j < k + 1 → gI p.code j = gI q.code j) := fun h j hj => by
              rcases Nat.lt_or_ge j k with h1 | h1
              · exact HK.out j h1
              · obtain rfl : j = k := by omega
                exact h
            obtain ⟨x, hxe⟩ : ∃ x, x = gI p.code k := ⟨_, rfl⟩
            obtain ⟨y, hye⟩ : ∃ y, y = gI q.code k := ⟨_, rfl⟩
            rw [← hxe] at q1 q2 HS HG
            rw [← hye] at q3 q4 HS HG
            clear hxe hye hcell hcell2 HK
            obtain ⟨o1, x1⟩ := x
            obtain ⟨o2, x2⟩ := y
            dsimp only at q1 q2 q3 q4
            have u1 := stIn
            have u2 := utIn
            have u3 := gdIn
            have hq := neqIn ⟨o1, x1⟩ ⟨o2, x2⟩
            dsimp only at hq
            by_cases he : (⟨o1, x1⟩ : Ins) = ⟨o2, x2⟩
            · rw [decide_eq_true he] at hq
              have HG' := Lib.hid (HG.out he)
              clear HS HG
              go_wp2_with fail
              go_quiet (fail)
              go_wp2_with fail
              go_roundw
              case rel => exact ⟨k + 1, by omega, by go_num, HG'.out, ⟨_, rfl⟩⟩
              case measure => simp [intOf]; omega
            · rw [decide_eq_false he] at hq
              have Z := Lib.hid (HS.out he)
              clear HS HG
              go_wp2_with fail
              go_quiet (fail)
              go_wp2_with fail
              go_ret
              exact ⟨ret_bool Z.out.symm, bdrew (bdrew g0 _) _⟩
          · have e1 : decide ((k : Int) < (n' : Int)) = false := by simp; omega
            have e1' : decide (k < n') = false := by simp; omega
            have Z : Hid (bb = true) := by
              show _ = _
              rw [HBB.out, hLp.out, decide_eq_true (ext_gI (by rw [Hn.out, Hm.out]) (fun j hj => HK.out j (by rw [Hn.out] at hj; omega)))]; rfl
            go_wp2_with fail
            go_ret
            exact ⟨ret_bool Z.out.symm, bdrew g0 _⟩
      · have hd2 : ((n' : Int) != (m' : Int)) = true := by simp; omega
        have Z : Hid (bb = false) := by
          show _ = _
          rw [HBB.out, decide_eq_false (fun e : p.code = q.code => hl (by rw [← Hn.out, ← Hm.out, e]))]; simp
        have HW := Lib.hid hw0
        clear hx0 hy0 hx hy hw0
        go_enter Tryd.func14, Tryd.ntmps14
        go_wp2_with fail
        rw [← HW.out]
        refine HA.out.mono ?_
        rintro e w1 ⟨rfl, u, rfl⟩
        obtain ⟨p0, p1, p2⟩ := three_cellsV r1
        obtain ⟨t0, t1, t2⟩ := three_cellsV r2
        go_wp2_with fail
        go_ret
        exact ⟨ret_bool Z.out.symm, bdrew g0 u⟩
  · have hd : (L != M) = true := by simpa using hL
    have Z : Hid (bb = false) := by
      show _ = _
      rw [HBB.out, decide_eq_false (fun e : p.locs = q.locs => hL (by rw [HL.out, HM.out, e]))]; simp
    have HW := Lib.hid hw0
    clear hx0 hy0 hx hy hw0
    go_enter Tryd.func14, Tryd.ntmps14
    go_wp2_with fail
    go_ret
    refine ⟨ret_bool Z.out.symm, ?_⟩
    first | exact g0 | (rw [← HW.out]; exact g0)
/-- a list of strings that lies in memory. -/
def StrsM (w : World) (A : Option Addr) (n c : Nat) (l : List (List UInt8)) : Prop := l.length = n ∧ n ≤ c ∧ Cells w A n (fun i => .string (strB (l.getD i [])))
theorem StrsM.below {w w' : World} {A : Option Addr} {n c : Nat} {l : List (List UInt8)} (h : StrsM w A n c l) (hb : Below w.heap.size w w') : StrsM w' A n c l := ⟨h.1, h.2.1, h.2.2.below hb⟩
theorem OwnS.toStrs {w : World} {B : Nat} {A : Option Addr} {n c : Nat} {l : List (List UInt8)} (h : OwnS encSt 1 w B 9 A n c l) : StrsM w A n c l := by
  refine ⟨h.length (fun _ => rfl) (by decide), h.cap, fun hn => ?_⟩
  obtain ⟨b, hA, _, hlt, hc⟩ := h.get (fun _ => rfl) (by decide) ([] : List UInt8) hn
  refine ⟨b, 0, hA, hlt, fun i hi => ?_⟩
  have := hc i 0 (.string (strB (l.getD i []))) hi rfl
  simpa using this
set_option maxRecDepth 100000 in
set_option maxHeartbeats 2000000 in
theorem sameNames_any (A D : Option Addr) (n c m d : Nat) (l q : List (List UInt8)) (w : World) (hx : StrsM w A n c l) (hy : StrsM w D m d q) (h1 : n ≤ 100000) :
    Calls Tryd.prog 17 #[.slice A n c, .slice D m d] w fun e w' => e = .returned (.bool (decide (l = q))) ∧ Drawn w w' := by
  have Hn := Lib.hid hx.1
  have Hm := Lib.hid hy.1
  obtain ⟨bb, hbb⟩ : ∃ bb, bb = decide (l = q) := ⟨_, rfl⟩
  rw [← hbb]
  have HBB := Lib.hid hbb
  clear hbb
  by_cases hl : n = m
  · subst hl
    go_enter Tryd.func17, Tryd.ntmps17
    go_wp2_with fail
    go_loopw [5] (fun i wr => ∃ k : Nat, k ≤ n ∧ i = .int .i64 (k : Int) ∧ Hid (∀ j, j < k → l.getD j [] = q.getD j []) ∧ Drawn w wr) (fun i _ => n - (intOf i).toNat)
    case atStart => exact ⟨0, Nat.zero_le _, rfl, fun j hj => absurd hj (by omega), Drawn.refl _⟩
    case round =>
      obtain ⟨k, hk, rfl, HK, u, rfl⟩ := hrel
      by_cases hlt : k < n
      · have e1 : decide ((k : Int) < (n : Int)) = true := by simp; omega
        have e1' : decide (k < n) = true := by simp; omega
        obtain ⟨b, off, rfl, hbl, hcell⟩ := hx.2.2.get hlt
        obtain ⟨b2, off2, rfl, hbl2, hcell2⟩ := hy.2.2.get hlt
        have q1 := hcell k hlt
        have q3 := hcell2 k hlt
        have HS : Hid (l.getD k [] ≠ q.getD k [] → bb = false) := fun h => by rw [HBB.out]; exact decide_eq_false (fun e => h (by rw [e]))
        have HG : Hid (l.getD k [] = q.getD k [] → ∀ j, j < k + 1 → l.getD j [] = q.getD j []) := fun h j hj => by
          rcases Nat.lt_or_ge j k with h1 | h1
          · exact HK.out j h1
          · obtain rfl : j = k := by omega
            exact h
        obtain ⟨x, hxe⟩ : ∃ x, x = l.getD k [] := ⟨_, rfl⟩
        obtain ⟨y, hye⟩ : ∃ y, y = q.getD k [] := ⟨_, rfl⟩
        rw [← hxe] at q1 HS HG
        rw [← hye] at q3 HS HG
        clear hxe hye hcell hcell2 HK
        have hd := strB_beq x y
        by_cases he : x = y
        · rw [decide_eq_true he] at hd
          have HG' := Lib.hid (HG.out he)
          clear HS HG he
          go_wp2_with fail
          go_quiet (fail)
          go_wp2_with fail
          go_roundw
          case rel => exact ⟨k + 1, by omega, by go_num, HG'.out, ⟨_, rfl⟩⟩
          case measure => simp [intOf]; omega
        · rw [decide_eq_false he] at hd
          have Z := Lib.hid (HS.out he)
          clear HS HG he
          go_wp2_with fail
          go_quiet (fail)
          go_wp2_with fail
          go_ret
          exact ⟨ret_bool Z.out.symm, (Drawn.drewN w u).step _⟩
      · have e1 : decide ((k : Int) < (n : Int)) = false := by simp; omega
        have e1' : decide (k < n) = false := by simp; omega
        have Z : Hid (bb = true) := by
          show _ = _
          rw [HBB.out]
          refine decide_eq_true ?_
          apply List.ext_getElem (by rw [Hn.out, Hm.out])
          intro i h1 h2
          have := HK.out i (by rw [Hn.out] at h1; omega)
          simpa [List.getD_eq_getElem?_getD, List.getElem?_eq_getElem h1, List.getElem?_eq_getElem h2] using this
        go_wp2_with fail
        go_ret
        exact ⟨ret_bool Z.out.symm, ⟨_, rfl⟩⟩
  · have hd : ((n : Int) != (m : Int)) = true := by simp; omega
    have Z : Hid (bb = false) := by
      show _ = _
      rw [HBB.out]
      exact decide_eq_false (fun e => hl (by rw [← Hn.out, ← Hm.out, e]))
    go_enter Tryd.func17, Tryd.ntmps17
    go_wp2_with fail
    go_ret
    exact ⟨ret_bool Z.out.symm, Drawn.refl _⟩
end Go.Proofs.YtlbhggjkcfcobaaDoor
