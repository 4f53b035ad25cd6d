/- Contract of layer 15: Encode (its error; what it writes is left open). -/
import Derived.Test.YtlbhggjkcfcobaaDoorIe
import Derived.Deep.RegionHeld3
import Derived.IntWalk
import Derived.Deep.DeepCutAuto
namespace Go.Proofs.YtlbhggjkcfcobaaDoor
open Go.RowKit Go.Proofs
set_option linter.unusedVariables false

section
variable {α : Type} {enc : α → Value} {P : Program} {w : World} {B : Nat} {e t : TypeId} {A : Option Addr} {n c : Nat} {xs : List α} {zero : α} {bytes : Nat}
  {ops : Array Oper} {rest : List Oper} {o : Oper} {a : Act} {K : Act → World → Prop} {Q : Exit → Act → World → Prop} {E : Prop}
theorem wpList_pushg (hgd : o.guard = none) (s x : Operand) (ho : o.op = .call { callee := .builtin .append, args := #[s, x], argTypes := #[t, t] })
    (ht : P.underlying t = some (.slice e)) (hi : (P.info? e).map (fun i => (i.zero, i.size, i.bytes)) = some (some (enc zero), 1, bytes)) (h1 : ∀ x, (enc x).oneCell' = true) (hz : (enc zero).cells.size = 1)
    (hs : a.eval s = .slice A n c) (hown : Own enc w B e A n c xs) (hB : B ≤ w.heap.size) (y : α) (v : Value) (hv : enc y = v)
    (hx : a.eval x = .slice (some ⟨w.heap.size, 0, none⟩) 1 1) (hl : n + 1 ≤ maxLen) (hby : (n + 1) * bytes ≤ 140737488355328)
    (h : ∀ A2 c2 w', Own enc w' B e A2 (n + 1) c2 (xs ++ [y]) → Below B w w' → w.grownBy w' (Value.slice A n c).ownBlock → wpList P ops Q rest (a.put o.dst (.slice A2 (n + 1) c2)) w') : wpList P ops Q (o :: rest) a (w.alloc (.cells #[v] e)) := by
  subst hv
  refine wpList_plain hgd fun K hK => ?_
  obtain ⟨A2, c2, w', hrun, h2, h3, h4⟩ := run_append_own_one (P := P) o.type ht hi h1 hz hown hB y hl hby
  unfold Oper.wp execOp
  simp only [ho, resolve, invoke, builtin, Sem.run_bind, Sem.run_pure, Result.andThen_ok, List.map_toArray, List.map_cons, List.map_nil, hs, hx, hrun]
  exact hK _ _ (h A2 c2 w' h2 h3 (grownBy.trans' (World.grownBy_alloc w _ _) h4))
end
theorem own_block_lt {α : Type} {enc : α → Value} {w : World} {B : Nat} {e : TypeId} {A : Option Addr} {n c : Nat} {xs : List α} (h : Own enc w B e A n c xs) : ∀ g, (Value.slice A n c).ownBlock = some g → g < w.heap.size := fun g hg => by
  rcases h.2 with ⟨h1, _⟩ | ⟨g', cap, cur, h1, _, h3, _⟩
  · rw [h1] at hg; cases hg
  · rw [h1] at hg
    injection hg with hg
    have hg' : g' = g := hg
    subst hg'
    exact (Array.getElem?_eq_some_iff.1 h3).1
theorem flag_any (b : Bool) (w : World) : Calls Tryd.prog 38 #[.bool b] w fun e w' => e = .returned (.int .u32 (if b = true then 1 else 0)) ∧ w' = w := by
  cases b with
  | true =>
    go_enter Tryd.func38, Tryd.ntmps38
    go_wp2_with fail
    go_ret
    exact ⟨rfl, rfl⟩
  | false =>
    go_enter Tryd.func38, Tryd.ntmps38
    go_wp2_with fail
    go_ret
    exact ⟨rfl, rfl⟩
theorem putG_le {n : Nat} (hn : n ≤ 9007199254740991) : (putG n).length ≤ 8 := by rw [putG_length]; have := furL_le hn; omega

theorem rowV.grown {w w' : World} {g : Nat} {t : TypeId} {cs : Array Value} {row : Option Nat} (h : rowV w g t cs) (hg : w.grownBy w' row) (hne : some g ≠ row) : rowV w' g t cs := (hg.block g h.lt hne).trans h
theorem two_cellsV {w : World} {g : Nat} {t : TypeId} {a b : Value} (h : rowV w g t #[a, b]) : w.cell? ⟨g, 0, none⟩ = some a ∧ w.cell? ⟨g, 1, none⟩ = some b := by
  unfold rowV at h
  refine ⟨?_, ?_⟩ <;> simp [World.cell?, h]
/-- bytes of the call's own, whatever they are, at most k. -/
def RetFew (B : Nat) (w : World) (k : Nat) (e : Ending) (w' : World) : Prop := ∃ A n c xs, e = .returned (.slice A n c) ∧ n ≤ k ∧ Own encB w' B 5 A n c xs ∧ Below w.heap.size w w'
theorem putFew (B : Nat) (A : Option Addr) (m c : Nat) (xs : List UInt8) (n : Nat) (w : World) (hx : Bytes w A m c xs) (hm : m ≤ 900000) (hn : n ≤ 9007199254740991) (hB : B ≤ w.heap.size) :
    Calls Tryd.prog 37 #[.slice A m c, .int .i64 (n : Int)] w (RetFew B w (m + 8)) := by
  refine (putInt_any A m c xs n w hx hm hn).mono ?_
  rintro e w1 ⟨A1, n1, c1, rfl, ho, hb⟩
  have h1 := ho.length
  have h2 := putG_le hn
  have h3 := hx.1
  rw [List.length_append] at h1
  exact ⟨A1, n1, c1, _, rfl, by omega, ho.mono hB, hb⟩

theorem arrGo_ok : ∀ (l : List Arr) (left : Int), left ≤ 65536 → arrGo left l = 0 → ∀ x ∈ l, 1 ≤ x.size ∧ x.size ≤ 65536
  | [], _, _, _, x, hx => by simp at hx
  | y :: l, left, hl, h, x, hx => by
    rw [arrGo] at h
    by_cases h1 : y.size < 1 ∨ left < y.size
    · rw [if_pos h1] at h; cases h
    · rw [if_neg h1] at h
      rcases List.mem_cons.1 hx with rfl | hx
      · omega
      · exact arrGo_ok l (left - y.size) (by omega) h x hx
theorem formE_ok {p : Prg} (h : formE p = 0) : p.arrs.length ≤ 8 ∧ (∀ x ∈ p.arrs, 1 ≤ x.size ∧ x.size ≤ 65536) ∧ 0 ≤ p.locs ∧ p.locs ≤ 16 ∧ p.code.length ≤ 1024 ∧ codeE p.code = 0 := by
  unfold formE at h
  by_cases h1 : arrE p.arrs ≠ 0
  · rw [if_pos h1] at h; exact absurd h h1
  rw [if_neg h1] at h
  by_cases h2 : p.locs < 0 ∨ 16 < p.locs
  · rw [if_pos h2] at h; cases h
  rw [if_neg h2] at h
  by_cases h3 : 1024 < p.code.length
  · rw [if_pos h3] at h; cases h
  rw [if_neg h3] at h
  have h4 : arrE p.arrs = 0 := by omega
  unfold arrE at h4
  by_cases h5 : 8 < p.arrs.length
  · rw [if_pos h5] at h4; cases h4
  rw [if_neg h5] at h4
  exact ⟨by omega, arrGo_ok _ _ (by omega) h4, by omega, by omega, by omega, h⟩
theorem codeE_ok : ∀ {l : List Ins}, codeE l = 0 → ∀ x ∈ l, chkE x = 0
  | [], _, x, hx => by simp at hx
  | i :: l, h, x, hx => by
    rw [codeE_step] at h
    by_cases h1 : chkE i ≠ 0
    · rw [if_pos h1] at h; exact absurd h h1
    · rw [if_neg h1] at h
      rcases List.mem_cons.1 hx with rfl | hx
      · omega
      · exact codeE_ok h x hx
theorem chkE_ok {i : Ins} (h : chkE i = 0) : 0 ≤ i.op ∧ i.op < 36 ∧ i.arg < (opO i.op.toNat).limit := by
  unfold chkE at h
  by_cases h1 : okX i.op = false
  · rw [if_pos h1] at h; cases h
  rw [if_neg h1] at h
  have h2 : 0 ≤ i.op ∧ i.op < 36 := by
    cases h3 : okX i.op with
    | false => exact absurd h3 h1
    | true => unfold okX at h3; simpa using h3
  by_cases h3 : ((opX i.op).limit : Int) ≤ i.arg
  · rw [if_pos h3] at h; cases h
  · have : opX i.op = opO i.op.toNat := by unfold opX; rw [if_pos h2]
    rw [this] at h3
    exact ⟨h2.1, h2.2, by omega⟩

def RetEnc (w : World) (x : Int) (e : Ending) (w' : World) : Prop := ∃ A n c, e = .returned (.tuple #[.slice A n c, .int .i64 x]) ∧ Below w.heap.size w w'

set_option maxRecDepth 100000 in
set_option maxHeartbeats 4000000 in
theorem encode_any (A A' : Option Addr) (n c n' c' : Nat) (L : Int) (p : Prg) (w : World) (hx : Progs w A n c L A' n' c' p) :
    Calls Tryd.prog 23 #[.agg #[.slice A n c, .int .i64 L, .slice A' n' c']] w (RetEnc w (formE p)) := by
  have hL := bounds_i64 hx.wf
  have HnA := Lib.hid hx.arrs.1
  have HnC := Lib.hid hx.code.1
  have HL := Lib.hid hx.locs
  have g0 : Below w.heap.size w (w.alloc (.cells #[.slice A n c, .int .i64 L, .slice A' n' c'] 27)) := balloc (Below.refl _ _) _
  have r0 := rowV.new w 27 #[.slice A n c, .int .i64 L, .slice A' n' c']
  have hx0 := hx.below g0
  obtain ⟨w0, hw0⟩ : ∃ w0, w0 = w.alloc (.cells #[.slice A n c, .int .i64 L, .slice A' n' c'] 27) := ⟨_, rfl⟩
  rw [← hw0] at g0 r0 hx0
  have H1 := Lib.hid (form_any A A' n c n' c' L p w0 hx0)
  have HF : Hid (formE p = 0 → p.arrs.length ≤ 8 ∧ (∀ x ∈ p.arrs, 1 ≤ x.size ∧ x.size ≤ 65536) ∧ 0 ≤ p.locs ∧ p.locs ≤ 16 ∧ p.code.length ≤ 1024 ∧ codeE p.code = 0) := formE_ok
  obtain ⟨fe, hfe⟩ : ∃ fe, fe = formE p := ⟨_, rfl⟩
  rw [← hfe] at H1 HF ⊢
  clear hfe
  go_enter Tryd.func23, Tryd.ntmps23
  go_wp2_with fail
  rw [← hw0]
  clear hw0
  refine H1.out.mono ?_
  rintro e w1 ⟨rfl, hb1⟩
  have b1 := g0.trans (hb1.mono g0.size)
  have r1 := r0.below hb1 r0.lt
  have hx1 := hx0.below hb1
  clear H1 hx0 r0 g0 hb1
  by_cases h1 : fe = 0
  · have d1 : (fe != 0) = false := by simp [h1]
    obtain ⟨f1, f2, f3, f4, f5, f6⟩ := HF.out h1
    rw [HnA.out] at f1
    rw [← HL.out] at f3 f4
    rw [HnC.out] at f5
    have F2 := Lib.hid f2
    have F6 := Lib.hid f6
    have Hfe := Lib.hid h1
    clear HF f2 f6 h1
    obtain ⟨c0, c1, c2⟩ := three_cells r1
    have H2 := Lib.hid (putFew w1.heap.size none 0 0 [] n w1 (Bytes.nil _ _) (by omega) (by omega) (Nat.le_refl _))
    go_wp2_with fail
    refine H2.out.mono ?_
    rintro e w2 ⟨A2, n2, c2', xs2, rfl, hn2, ho2, hb2⟩
    clear H2
    have k1 := (hb2.cell (p := ⟨w.heap.size, 0, none⟩) r1.lt).trans c0
    have hb0 := hb2
    go_wp2_with fail
    go_loopw [5, 24] (fun d i wr => ∃ (k n3 c3 : Nat) (A3 : Option Addr) (ys : List UInt8), k ≤ n ∧ i = .int .i64 (k : Int) ∧ d = .slice A3 n3 c3 ∧ n3 ≤ 8 + 8 * k ∧ Own encB wr w1.heap.size 5 A3 n3 c3 ys ∧ Below w1.heap.size w1 wr) (fun _ i _ => n - (intOf i).toNat)
    case atStart => exact ⟨0, _, _, _, _, Nat.zero_le _, rfl, rfl, by omega, ho2, hb0⟩
    case round =>
      clear ho2 hb0 hb2 k1
      obtain ⟨k, n3, c3, A3, ys, hk, rfl, rfl, hn3, ho3, hb3⟩ := hrel
      by_cases hlt : k < n
      · have e1 : decide ((k : Int) < (n : Int)) = true := by simp; omega
        have e1' : decide (k < n) = true := by simp; omega
        obtain ⟨b, off, rfl, hbl, hcell⟩ := (hx1.arrs.below hb3).get hlt
        obtain ⟨q1, q2⟩ := hcell k hlt
        have hsz := F2.out (gA p.arrs k) (gA_mem (by rw [HnA.out]; exact hlt))
        clear hcell
        obtain ⟨x, hxe⟩ : ∃ x, x = gA p.arrs k := ⟨_, rfl⟩
        rw [← hxe] at q1 q2 hsz
        clear hxe
        obtain ⟨wd, sz⟩ := x
        dsimp only at q1 q2 hsz
        have b4 := balloc (hb3.mono (Nat.le_refl _)) (.cells #[.bool wd, .int .i64 sz] 47)
        have ho4 := ho3.below ((Below.refl wr.heap.size wr).alloc (Nat.le_refl _) (.cells #[.bool wd, .int .i64 sz] 47))
        have a1 : (wr.alloc (.cells #[.bool wd, .int .i64 sz] 47)).cell? ⟨wr.heap.size, 0, none⟩ = some (.bool wd) := by simp
        have a2 : (wr.alloc (.cells #[.bool wd, .int .i64 sz] 47)).cell? ⟨wr.heap.size, 1, none⟩ = some (.int .i64 sz) := by simp
        have hfl := flag_any wd
        obtain ⟨f, hf⟩ : ∃ f : Int, f = if wd = true then 1 else 0 := ⟨_, rfl⟩
        have hf0 : 0 ≤ f ∧ f ≤ 1 := by rw [hf]; split <;> omega
        rw [← hf] at hfl
        clear hf
        obtain ⟨v, hv⟩ : ∃ v : Nat, 2 * sz + f = (v : Int) := ⟨(2 * sz + f).toNat, by omega⟩
        have hvb : v ≤ 200000 := by omega
        obtain ⟨w5, hw5⟩ : ∃ w5, w5 = wr.alloc (.cells #[.bool wd, .int .i64 sz] 47) := ⟨_, rfl⟩
        rw [← hw5] at b4 ho4 a1 a2
        have H3 := Lib.hid (fun q => putFew w1.heap.size A3 n3 c3 ys v (w5.drewN q) (ho4.bytesB.drewN q) (by omega) (by omega) b4.size)
        have HFL := Lib.hid hfl; clear hfl
        have i1 : IntKind.i64.wrap (2 * sz) = 2 * sz := IntWalk.i64_in _ (by omega)
        have i2 : IntKind.i64.wrap f = f := IntWalk.i64_in _ (by omega)
        have i3 : IntKind.i64.wrap (2 * sz + f) = (v : Int) := by rw [hv]; exact IntWalk.i64_in _ (by omega)
        go_wp2_with fail
        rw [← hw5]
        clear hw5
        refine wp_region_quiet_tail 9 (by kernel_rfl) (by kernel_rfl) ?_
        simp only [List.take_succ_cons, List.take_zero, List.drop_succ_cons, List.drop_zero]
        repeat (go_big_quiet_step (first | (go_at_call 38; exact Calls.quiet_of_same (HFL.out _))))
        refine wpQuiet_nil ?_
        intro _ hw'
        obtain ⟨nq, hw''⟩ := hw'
        subst hw''
        clear i1 i2 i3
        go_wp2_with fail
        refine (H3.out nq).mono ?_
        rintro e w6 ⟨A6, n6, c6, xs6, rfl, hn6, ho6, hb6⟩
        clear H3 HFL
        have b6 := (bdrew b4 nq).trans (hb6.mono (bdrew b4 nq).size)
        go_wp2_with fail
        go_roundw
        case rel => exact ⟨k + 1, n6, c6, A6, xs6, by omega, by go_num, rfl, by omega, ho6, b6⟩
        case measure => simp [intOf]; omega
      · have e1 : decide ((k : Int) < (n : Int)) = false := by simp; omega
        have e1' : decide (k < n) = false := by simp; omega
        have r3 := r1.below hb3 r1.lt
        have hx3 := hx1.below hb3
        obtain ⟨j0, j1, j2⟩ := three_cells r3
        obtain ⟨l, rfl⟩ : ∃ l : Nat, L = (l : Int) := ⟨L.toNat, by omega⟩
        have hr3 := r3.lt
        have hb31 := hb3.size
        have H4 : Hid (Calls Tryd.prog 37 #[.slice A3 n3 c3, .int .i64 (l : Int)] wr.drew (RetFew w1.heap.size wr.drew (n3 + 8))) := putFew w1.heap.size A3 n3 c3 ys l wr.drew (ho3.bytesB.drewN 1) (by omega) (by omega) hb31
        have hm3 : n3 ≤ 1000 := by omega
        go_wp2_with fail
        go_region_held3 (fun W => W.cell? ⟨w.heap.size, 1, none⟩ = some (.int .i64 (l : Int)) ∧ W.cell? ⟨w.heap.size, 2, none⟩ = some (.slice A' n' c'))
          (first
            | go_keep
            | exact ⟨(hb6.cell (p := ⟨w.heap.size, 1, none⟩) hr3).trans j1, (hb6.cell (p := ⟨w.heap.size, 2, none⟩) hr3).trans j2⟩
            | exact ⟨(hb7.cell (p := ⟨w.heap.size, 1, none⟩) hr6).trans m1, (hb7.cell (p := ⟨w.heap.size, 2, none⟩) hr6).trans m2⟩)
          (first
            | (go_at_call_of 37 (Value.int .i64 (l : Int)); refine H4.out.mono ?_; rintro e w6 ⟨A6, n6, c6, xs6, rfl, hn6, ho6, hb6⟩; have hr6 : w.heap.size < w6.heap.size := Nat.lt_of_lt_of_le hr3 hb6.size; have m1 := (hb6.cell (p := ⟨w.heap.size, 1, none⟩) hr3).trans j1; have m2 := (hb6.cell (p := ⟨w.heap.size, 2, none⟩) hr3).trans j2)
            | (go_at_call_of 37 (Value.int .i64 (n' : Int)); refine (putFew w1.heap.size A6 n6 c6 xs6 n' w6 ho6.bytesB (by omega) (by omega) (Nat.le_trans hb31 hb6.size)).mono ?_; rintro e w7 ⟨A7, n7, c7, xs7, rfl, hn7, ho7, hb7⟩))
        have b7 : Below w1.heap.size w1 w7 := hb3.trans (((Drawn.drewN wr 1).below _).trans ((hb6.trans (hb7.mono hb6.size)).mono hb31))
        have r7 := r1.below b7 r1.lt
        have hx7 := hx1.below b7
        obtain ⟨s0, s1, s2⟩ := three_cells r7
        have hn7' : n7 ≤ 1100 := by omega
        clear ho6 hb6 m1 m2 H4 r3 hx3 j0 j1 j2 hr3 hr6 hn6 ho3 hn3 e1 e1' hb31 hm3
        go_wp2_with fail
        go_loopw [5, 50] (fun d i wr => ∃ (k n3 c3 : Nat) (A3 : Option Addr) (ys : List UInt8), k ≤ n' ∧ i = .int .i64 (k : Int) ∧ d = .slice A3 n3 c3 ∧ n3 ≤ 1100 + 9 * k ∧ Own encB wr w1.heap.size 5 A3 n3 c3 ys ∧ Below w1.heap.size w1 wr) (fun _ i _ => n' - (intOf i).toNat)
        case atStart => exact ⟨0, _, _, _, _, Nat.zero_le _, rfl, rfl, by omega, ho7, b7⟩
        case round =>
          clear ho7 b7 hb7 hb3 hn7 hn7' r7 hx7 s0 s1 s2
          obtain ⟨k, n3, c3, A3, ys, hk, rfl, rfl, hn3, ho3, hb3⟩ := hrel
          by_cases hlt : k < n'
          · have e1 : decide ((k : Int) < (n' : Int)) = true := by simp; omega
            have e1' : decide (k < n') = true := by simp; omega
            obtain ⟨b, off, rfl, hbl, hcell⟩ := (hx1.code.below hb3).get hlt
            obtain ⟨q1, q2⟩ := hcell k hlt
            obtain ⟨a0, a1, -⟩ := hx1.code.arg hlt
            obtain ⟨o0, o1, -⟩ := chkE_ok (codeE_ok F6.out (gI p.code k) (gI_mem (by rw [HnC.out]; exact hlt)))
            clear hcell
            obtain ⟨x, hxe⟩ : ∃ x, x = gI p.code k := ⟨_, rfl⟩
            rw [← hxe] at q1 q2 a0 a1 o0 o1
            clear hxe
            obtain ⟨op, arg⟩ := x
            dsimp only at q1 q2 a0 a1 o0 o1
            obtain ⟨o, rfl⟩ : ∃ o : Nat, op = (o : Int) := ⟨op.toNat, by omega⟩
            obtain ⟨g, rfl⟩ : ∃ g : Nat, arg = (g : Int) := ⟨arg.toNat, by omega⟩
            have b4 := balloc (hb3.mono (Nat.le_refl _)) (.cells #[.int .i64 (o : Int), .int .u32 (g : Int)] 57)
            have ho4 := ho3.below ((Below.refl wr.heap.size wr).alloc (Nat.le_refl _) (.cells #[.int .i64 (o : Int), .int .u32 (g : Int)] 57))
            have r4 := rowV.new wr 57 #[.int .i64 (o : Int), .int .u32 (g : Int)]
            have hne : some wr.heap.size ≠ (Value.slice A3 n3 c3).ownBlock := fun h => by have := own_block_lt ho3 _ h.symm; omega
            obtain ⟨w5, hw5⟩ : ∃ w5, w5 = wr.alloc (.cells #[.int .i64 (o : Int), .int .u32 (g : Int)] 57) := ⟨_, rfl⟩
            rw [← hw5] at b4 ho4 r4
            have Hw5 := Lib.hid hw5
            clear hw5
            go_upto_region 14 with (fail)
            rw [← Hw5.out]
            clear Hw5
            obtain ⟨t0, t1⟩ := two_cellsV r4
            have hv : Hid (encB (UInt8.ofNat o) = .int .u8 (o : Int)) := encB_ofNat (by omega)
            have m1 : Hid (n3 + 1 ≤ maxLen ∧ (n3 + 1) * 1 ≤ 140737488355328) := ⟨by simp [maxLen]; omega, by omega⟩
            have hB4 := Lib.hid b4.size
            have Hne := Lib.hid hne
            have HR4 := Lib.hid r4
            clear hne r4
            go_wp2_with (at_builtin; refine wpList_pushg (enc := encB) rfl (.tmp 54) (.tmp 58) rfl uB infoB encB_one rfl rfl ho4 hB4.out (UInt8.ofNat o) _ hv.out rfl m1.out.1 m1.out.2 ?_; intro A6 c6 W6 ho6 hb6 hg6; have r6 := HR4.out.grown hg6 Hne.out; obtain ⟨s0, s1⟩ := two_cellsV r6)
            have b6 := b4.trans hb6
            clear hg6 Hne HR4 t0 t1 hb6 b4 ho4 m1 hv hB4
            have H7 := Lib.hid (known_any (o : Int) W6)
            obtain ⟨x, hx'⟩ : ∃ x, x = opX (o : Int) := ⟨_, rfl⟩
            rw [← hx'] at H7
            unfold aggO at H7
            clear hx'
            refine H7.out.mono ?_
            rintro e w7 ⟨rfl, hb7⟩
            clear H7
            have b7 := b6.trans (hb7.mono b6.size)
            have r7 := r6.below hb7 r6.lt
            have ho7 := ho6.below hb7
            obtain ⟨t0, t1⟩ := two_cellsV r7
            obtain ⟨xn, xp, xq, xl, xa⟩ := x
            have t1' : ∀ o : Obj, (w7.alloc o).cell? ⟨wr.heap.size, 1, none⟩ = some (.int .u32 (g : Int)) := fun o => (((Below.refl w7.heap.size w7).alloc (Nat.le_refl _) o).cell (p := ⟨wr.heap.size, 1, none⟩) r7.lt).trans t1
            clear r6 s0 s1
            cases xa with
            | false =>
              go_wp2_with fail
              go_roundw
              case rel => exact ⟨k + 1, _, _, _, _, by omega, by go_num, rfl, by omega, ho7.below ((Below.refl w7.heap.size w7).alloc (Nat.le_refl _) _), balloc b7 _⟩
              case measure => simp [intOf]; omega
            | true =>
              have b8 := balloc b7 (.cells #[.string (strB xn), .string (strB xp), .string (strB xq), .int .u64 (xl : Int), .bool true] 82)
              have ho8 := ho7.below ((Below.refl w7.heap.size w7).alloc (Nat.le_refl _) (.cells #[.string (strB xn), .string (strB xp), .string (strB xq), .int .u64 (xl : Int), .bool true] 82))
              have H8 := Lib.hid (putFew w1.heap.size A6 (n3 + 1) c6 _ g _ ho8.bytesB (by omega) (by omega) b8.size)
              go_wp2_with fail
              refine H8.out.mono ?_
              rintro e w9 ⟨A9, n9, c9, xs9, rfl, hn9, ho9, hb9⟩
              clear H8
              have b9 := b8.trans (hb9.mono b8.size)
              go_wp2_with fail
              go_roundw
              case rel => exact ⟨k + 1, n9, c9, A9, xs9, by omega, by go_num, rfl, by omega, ho9, b9⟩
              case measure => simp [intOf]; omega
          · have e1 : decide ((k : Int) < (n' : Int)) = false := by simp; omega
            have e1' : decide (k < n') = false := by simp; omega
            go_wp2_with fail
            go_ret2
            rw [Hfe.out]
            exact ⟨_, _, _, rfl, b1.trans (hb3.mono b1.size)⟩
  · have d1 : (fe != 0) = true := by simp [h1]
    go_wp2_with fail
    go_ret2
    exact ⟨none, 0, 0, rfl, b1⟩
end Go.Proofs.YtlbhggjkcfcobaaDoor
