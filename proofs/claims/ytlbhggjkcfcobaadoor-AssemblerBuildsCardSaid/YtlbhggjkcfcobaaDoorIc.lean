/- Contracts of layer 15: arrays, form. -/
import Derived.Test.YtlbhggjkcfcobaaDoorIb
namespace Go.Proofs.YtlbhggjkcfcobaaDoor
open Go.RowKit Go.Proofs
set_option linter.unusedVariables false

/-- the error of arrays, so many cells being left. -/
def arrGo : Int → List Arr → Int
  | _, [] => 0
  | left, x :: l => if x.size < 1 ∨ left < x.size then 2 else arrGo (left - x.size) l
def arrE (l : List Arr) : Int := if 8 < l.length then 6 else arrGo 65536 l
theorem gA_get {l : List Arr} {k : Nat} (hk : k < l.length) : gA l k = l[k] := by simp [gA, List.getD, hk]
theorem drop_gA {l : List Arr} {k : Nat} (hk : k < l.length) : l.drop k = gA l k :: l.drop (k + 1) := by rw [gA_get hk]; exact List.drop_eq_getElem_cons hk
theorem gI_get {l : List Ins} {k : Nat} (hk : k < l.length) : gI l k = l[k] := by simp [gI, List.getD, hk]
theorem drop_gI {l : List Ins} {k : Nat} (hk : k < l.length) : l.drop k = gI l k :: l.drop (k + 1) := by rw [gI_get hk]; exact List.drop_eq_getElem_cons hk

set_option maxHeartbeats 1000000 in
theorem arrays_any (A : Option Addr) (n c : Nat) (l : List Arr) (w : World) (hx : Arrs w A n c l) :
    Calls Tryd.prog 58 #[.slice A n c] w fun e w' => e = .returned (.int .i64 (arrE l)) ∧ Below w.heap.size w w' := by
  have Hn := Lib.hid hx.1
  have hE : Hid (arrE l = if 8 < l.length then 6 else arrGo 65536 l) := rfl
  rw [Hn.out] at hE
  by_cases h1 : 8 < n
  · have d1 : decide ((8 : Int) < (n : Int)) = true := by simp; omega
    have d1' : decide (8 < n) = true := by simp; omega
    rw [if_pos h1] at hE
    rw [hE.out]
    go_enter Tryd.func58, Tryd.ntmps58
    go_wp2_with fail
    go_ret
    exact ⟨rfl, Below.refl _ _⟩
  · have d1 : decide ((8 : Int) < (n : Int)) = false := by simp; omega
    have d1' : decide (8 < n) = false := by simp; omega
    rw [if_neg h1] at hE
    rw [hE.out]
    go_enter Tryd.func58, Tryd.ntmps58
    go_wp2_with fail
    go_loopw [3, 11] (fun r i wr => ∃ (k : Nat) (left : Int), k ≤ n ∧ 0 ≤ left ∧ left ≤ 65536 ∧ i = .int .i64 (k : Int) ∧ r = .int .i64 left ∧ Hid (arrGo left (l.drop k) = arrGo 65536 l) ∧ Below w.heap.size w wr) (fun _ i _ => n - (intOf i).toNat)
    case atStart => exact ⟨0, 65536, Nat.zero_le _, by omega, by omega, rfl, rfl, rfl, Below.refl _ _⟩
    case round =>
      obtain ⟨k, left, hk, hl0, hl1, rfl, rfl, HG, hb⟩ := hrel
      by_cases hlt : k < n
      · have e1 : decide ((k : Int) < (n : Int)) = true := by simp; omega
        have e1' : decide (k < n) = true := by simp; omega
        obtain ⟨b, off, rfl, hbl, hcell⟩ := (hx.below hb).get hlt
        obtain ⟨c1, c2⟩ := hcell k hlt
        have hsz := bounds_i64 (hx.size hlt)
        have hd := Lib.hid (drop_gA (l := l) (k := k) (by rw [Hn.out]; exact hlt))
        clear hcell
        obtain ⟨x, hxe⟩ : ∃ x, x = gA l k := ⟨_, rfl⟩
        rw [← hxe] at c1 c2 hsz hd
        clear hxe
        obtain ⟨wd, sz⟩ := x
        dsimp only at c1 c2 hsz
        have hG : Hid (arrGo 65536 l = if sz < 1 ∨ left < sz then 2 else arrGo (left - sz) (l.drop (k + 1))) := by show _ = _; rw [← HG.out, hd.out]; rfl
        by_cases h2 : sz < 1
        · have d2 : decide (sz < 1) = true := by simpa using h2
          rw [if_pos (.inl h2)] at hG
          go_wp2_with fail
          go_ret
          exact ⟨ret_int hG.out.symm, balloc hb _⟩
        · have d2 : decide (sz < 1) = false := by simpa using h2
          by_cases h3 : left < sz
          · have d3 : decide (left < sz) = true := by simpa using h3
            rw [if_pos (.inr h3)] at hG
            go_wp2_with fail
            go_ret
            exact ⟨ret_int hG.out.symm, balloc hb _⟩
          · have d3 : decide (left < sz) = false := by simpa using h3
            rw [if_neg (by omega)] at hG
            go_wp2_with fail
            go_roundw
            case rel => exact ⟨k + 1, left - sz, by omega, by omega, by omega, by go_num, by go_num, hG.out.symm, balloc hb _⟩
            case measure => simp [intOf]; omega
      · have e1 : decide ((k : Int) < (n : Int)) = false := by simp; omega
        have e1' : decide (k < n) = false := by simp; omega
        have hG : Hid (arrGo 65536 l = 0) := by show _ = _; rw [← HG.out, List.drop_of_length_le (by rw [Hn.out]; omega)]; rfl
        go_wp2_with fail
        go_ret
        exact ⟨ret_int hG.out.symm, hb⟩

/-- a program: its arrays, its locals, its code. -/
structure Prg where
  arrs : List Arr
  locs : Int
  code : List Ins
def progV (A : Option Addr) (n c : Nat) (L : Int) (A' : Option Addr) (n' c' : Nat) : Array Value := #[.slice A n c, .int .i64 L, .slice A' n' c']
/-- the error of a program's code. -/
def codeE : List Ins → Int
  | [] => 0
  | i :: l => if chkE i ≠ 0 then chkE i else codeE l
def formE (p : Prg) : Int := if arrE p.arrs ≠ 0 then arrE p.arrs else if p.locs < 0 ∨ 16 < p.locs then 2 else if 1024 < p.code.length then 6 else codeE p.code
theorem codeE_step (i : Ins) (l : List Ins) : codeE (i :: l) = if chkE i ≠ 0 then chkE i else codeE l := rfl

/-- a program in memory, as an argument's cells. -/
structure Progs (w : World) (A : Option Addr) (n c : Nat) (L : Int) (A' : Option Addr) (n' c' : Nat) (p : Prg) : Prop where
  arrs : Arrs w A n c p.arrs
  locs : L = p.locs
  code : Codes w A' n' c' p.code
  wf : (Lit.int .i64 L).wf = true
theorem Progs.below {w w' : World} {A A' : Option Addr} {n c n' c' : Nat} {L : Int} {p : Prg} (h : Progs w A n c L A' n' c' p) (hb : Below w.heap.size w w') : Progs w' A n c L A' n' c' p := ⟨h.arrs.below hb, h.locs, h.code.below hb, h.wf⟩
theorem three_cells {w : World} {g : Nat} {t : TypeId} {fr : Nat × Nat} {a b c : Value} (h : w.heap[g]? = some (.cells #[a, b, c] t fr)) :
    w.cell? ⟨g, 0, none⟩ = some a ∧ w.cell? ⟨g, 1, none⟩ = some b ∧ w.cell? ⟨g, 2, none⟩ = some c := by
  refine ⟨?_, ?_, ?_⟩ <;> simp [World.cell?, h]

set_option maxHeartbeats 2000000 in
theorem form_any (A A' : Option Addr) (n c n' c' : Nat) (L : Int) (p : Prg) (w : World) (hx : Progs w A n c L A' n' c' p) :
    Calls Tryd.prog 36 #[.agg #[.slice A n c, .int .i64 L, .slice A' n' c']] w fun e w' => e = .returned (.int .i64 (formE p)) ∧ Below w.heap.size w w' := by
  have hL := bounds_i64 hx.wf
  have HnA := Lib.hid hx.arrs.1
  have HnC := Lib.hid hx.code.1
  have hE : Hid (formE p = if arrE p.arrs ≠ 0 then arrE p.arrs else if p.locs < 0 ∨ 16 < p.locs then 2 else if 1024 < p.code.length then 6 else codeE p.code) := rfl
  rw [← hx.locs, HnC.out] at hE
  have g0 : Below w.heap.size w (w.alloc (.cells #[.slice A n c, .int .i64 L, .slice A' n' c'] 27)) := balloc (Below.refl _ _) _
  have r0 := rowV.new w 27 #[.slice A n c, .int .i64 L, .slice A' n' c']
  have hx0 := hx.below g0
  obtain ⟨w0, hw0⟩ : ∃ w0, w0 = w.alloc (.cells #[.slice A n c, .int .i64 L, .slice A' n' c'] 27) := ⟨_, rfl⟩
  rw [← hw0] at g0 r0 hx0
  have H1 := Lib.hid (arrays_any A n c p.arrs w0 hx0.arrs)
  obtain ⟨ae, hae⟩ : ∃ ae, ae = arrE p.arrs := ⟨_, rfl⟩
  rw [← hae] at H1 hE
  clear hae
  go_enter Tryd.func36, Tryd.ntmps36
  go_wp2_with fail
  rw [← hw0]
  clear hw0
  refine H1.out.mono ?_
  rintro e w1 ⟨rfl, hb1⟩
  have b1 := g0.trans (hb1.mono g0.size)
  have r1 := r0.below hb1 r0.lt
  have hx1 := hx0.below hb1
  clear H1 hx0 r0 g0 hb1
  by_cases h1 : ae = 0
  · have d1 : (ae != 0) = false := by simp [h1]
    rw [if_neg (by omega)] at hE
    obtain ⟨c0, c1, c2⟩ := three_cells r1
    by_cases h2 : L < 0
    · have d2 : decide (L < 0) = true := by simpa using h2
      rw [if_pos (.inl h2)] at hE
      go_wp2_with fail
      go_ret
      exact ⟨ret_int hE.out.symm, b1⟩
    · have d2 : decide (L < 0) = false := by simpa using h2
      by_cases h3 : 16 < L
      · have d3 : decide (16 < L) = true := by simpa using h3
        rw [if_pos (.inr h3)] at hE
        go_wp2_with fail
        go_ret
        exact ⟨ret_int hE.out.symm, b1⟩
      · have d3 : decide (16 < L) = false := by simpa using h3
        rw [if_neg (by omega)] at hE
        by_cases h4 : 1024 < n'
        · have d4 : decide ((1024 : Int) < (n' : Int)) = true := by simp; omega
          have d4' : decide (1024 < n') = true := by simp; omega
          rw [if_pos h4] at hE
          go_wp2_with fail
          go_ret
          exact ⟨ret_int hE.out.symm, b1⟩
        · have d4 : decide ((1024 : Int) < (n' : Int)) = false := by simp; omega
          have d4' : decide (1024 < n') = false := by simp; omega
          rw [if_neg h4] at hE
          go_wp2_with fail
          have hb0 := Below.refl w1.heap.size w1
          go_loopw [30] (fun i wr => ∃ k : Nat, k ≤ n' ∧ i = .int .i64 (k : Int) ∧ Hid (codeE (p.code.drop k) = codeE p.code) ∧ Below w1.heap.size w1 wr) (fun i _ => n' - (intOf i).toNat)
          case atStart => exact ⟨0, Nat.zero_le _, rfl, rfl, hb0⟩
          case round =>
            clear hb0
            obtain ⟨k, hk, rfl, HG, hb⟩ := hrel
            by_cases hlt : k < n'
            · have e1 : decide ((k : Int) < (n' : Int)) = true := by simp; omega
              have e1' : decide (k < n') = true := by simp; omega
              obtain ⟨b, off, rfl, hbl, hcell⟩ := (hx1.code.below hb).get hlt
              obtain ⟨q1, q2⟩ := hcell k hlt
              obtain ⟨a0, a1, a2⟩ := hx1.code.arg hlt
              have hd := Lib.hid (drop_gI (l := p.code) (k := k) (by rw [HnC.out]; exact hlt))
              clear hcell
              obtain ⟨x, hxe⟩ : ∃ x, x = gI p.code k := ⟨_, rfl⟩
              rw [← hxe] at q1 q2 a0 a1 a2 hd
              clear hxe
              have H2 := Lib.hid (check_any x (wr.alloc (.cells #[.int .i64 x.op, .int .u32 x.arg] 57)) a0 a1)
              have hG : Hid (codeE p.code = if chkE x ≠ 0 then chkE x else codeE (p.code.drop (k + 1))) := by show _ = _; rw [← HG.out, hd.out]; rfl
              obtain ⟨ce, hce⟩ : ∃ ce, ce = chkE x := ⟨_, rfl⟩
              rw [← hce] at H2 hG
              clear hce hd HG
              have b2 := balloc (hb.mono (Nat.le_refl _)) (.cells #[.int .i64 x.op, .int .u32 x.arg] 57)
              go_wp2_with fail
              refine H2.out.mono ?_
              rintro e w2 ⟨rfl, hb2⟩
              have b3 := b2.trans (hb2.mono b2.size)
              clear H2 hb2 b2
              by_cases h5 : ce = 0
              · have d5 : (ce != 0) = false := by simp [h5]
                rw [if_neg (by omega)] at hG
                clear h5
                go_wp2_with fail
                go_roundw
                case rel => exact ⟨k + 1, by omega, by go_num, hG.out.symm, b3⟩
                case measure => simp [intOf]; omega
              · have d5 : (ce != 0) = true := by simp [h5]
                rw [if_pos h5] at hG
                go_wp2_with fail
                go_ret
                exact ⟨ret_int (by rw [hE.out, hG.out]), b1.trans (b3.mono b1.size)⟩
            · have e1 : decide ((k : Int) < (n' : Int)) = false := by simp; omega
              have e1' : decide (k < n') = false := by simp; omega
              have hG : Hid (codeE p.code = 0) := by show _ = _; rw [← HG.out, List.drop_of_length_le (by rw [HnC.out]; omega)]; rfl
              go_wp2_with fail
              go_ret
              exact ⟨ret_int (by rw [hE.out, hG.out]), b1.trans (hb.mono b1.size)⟩
  · have d1 : (ae != 0) = true := by simp [h1]
    rw [if_pos h1] at hE
    go_wp2_with fail
    go_ret
    exact ⟨ret_int hE.out.symm, b1⟩
end Go.Proofs.YtlbhggjkcfcobaaDoor
