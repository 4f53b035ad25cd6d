/- The reference of layer 15: Encode (its error; what it writes is left open). -/
import Derived.Test.YtmijalhilalaoaaDoorIh
namespace Go.Proofs.YtmijalhilalaoaaDoor
open Go.RowKit Go.Proofs
set_option linter.unusedVariables false

theorem putFewR (B : Nat) (A : Option Addr) (m c : Nat) (xs : List UInt8) (n : Nat) (w : World) (hx : Bytes w A m c xs) (hm : m ≤ 900000) (hn : n ≤ 9007199254740991) (hB : B ≤ w.heap.size) :
    Calls Tryd.prog 55 #[.slice A m c, .int .i64 (n : Int)] w (RetFew B w (m + 8)) := by
  refine (putIntR_any A m c xs n w hx hm hn).mono ?_
  rintro e w1 ⟨A1, n1, c1, rfl, ho, hb⟩
  have h1 := ho.length
  have h2 := putG_le hn
  have h3 := hx.1
  rw [List.length_append] at h1
  exact ⟨A1, n1, c1, _, rfl, by omega, ho.mono hB, hb⟩

set_option maxRecDepth 100000 in
set_option maxHeartbeats 4000000 in
theorem encodeR_any (A A' : Option Addr) (n c n' c' : Nat) (L : Int) (p : Prg) (w : World) (hx : Progs w A n c L A' n' c' p) :
    Calls Tryd.prog 29 #[.agg #[.slice A n c, .int .i64 L, .slice A' n' c']] w (RetEnc w (formE p)) := by
  have hL := bounds_i64 hx.wf
  have HnA := Lib.hid hx.arrs.1
  have HnC := Lib.hid hx.code.1
  have HL := Lib.hid hx.locs
  have g0 : Below w.heap.size w (w.alloc (.cells #[.slice A n c, .int .i64 L, .slice A' n' c'] 25)) := balloc (Below.refl _ _) _
  have r0 := rowV.new w 25 #[.slice A n c, .int .i64 L, .slice A' n' c']
  have hx0 := hx.below g0
  obtain ⟨w0, hw0⟩ : ∃ w0, w0 = w.alloc (.cells #[.slice A n c, .int .i64 L, .slice A' n' c'] 25) := ⟨_, rfl⟩
  rw [← hw0] at g0 r0 hx0
  have H1 := Lib.hid (formR_any A A' n c n' c' L p w0 hx0)
  have HF : Hid (formE p = 0 → p.arrs.length ≤ 8 ∧ (∀ x ∈ p.arrs, 1 ≤ x.size ∧ x.size ≤ 65536) ∧ 0 ≤ p.locs ∧ p.locs ≤ 16 ∧ p.code.length ≤ 1024 ∧ codeE p.code = 0) := formE_ok
  obtain ⟨fe, hfe⟩ : ∃ fe, fe = formE p := ⟨_, rfl⟩
  rw [← hfe] at H1 HF ⊢
  clear hfe
  go_enter Tryd.func29, Tryd.ntmps29
  go_wp2_with fail
  rw [← hw0]
  clear hw0
  refine H1.out.mono ?_
  rintro e w1 ⟨rfl, hb1⟩
  have b1 := g0.trans (hb1.mono g0.size)
  have r1 := r0.below hb1 r0.lt
  have hx1 := hx0.below hb1
  clear H1 hx0 r0 g0 hb1
  by_cases h1 : fe = 0
  · have d1 : (fe != 0) = false := by simp [h1]
    obtain ⟨f1, f2, f3, f4, f5, f6⟩ := HF.out h1
    rw [HnA.out] at f1
    rw [← HL.out] at f3 f4
    rw [HnC.out] at f5
    have F2 := Lib.hid f2
    have F6 := Lib.hid f6
    have Hfe := Lib.hid h1
    clear HF f2 f6 h1
    obtain ⟨c0, c1, c2⟩ := three_cells r1
    obtain ⟨l, rfl⟩ : ∃ l : Nat, L = (l : Int) := ⟨L.toNat, by omega⟩
    have H2 := Lib.hid (putFewR w1.heap.size none 0 0 [] n w1 (Bytes.nil _ _) (by omega) (by omega) (Nat.le_refl _))
    go_wp2_with fail
    refine H2.out.mono ?_
    rintro e w2 ⟨A2, n2, c2', xs2, rfl, hn2, ho2, hb2⟩
    clear H2 c0 c1 c2
    go_wp2_with fail
    go_loopw [5, 6] (fun d i wr => ∃ (k n3 c3 : Nat) (A3 : Option Addr) (ys : List UInt8), k ≤ n ∧ i = .int .i64 (k : Int) ∧ d = .slice A3 n3 c3 ∧ n3 ≤ 8 + 8 * k ∧ Own encB wr w1.heap.size 5 A3 n3 c3 ys ∧ Below w1.heap.size w1 wr) (fun _ i _ => n - (intOf i).toNat)
    case atStart => exact ⟨0, _, _, _, _, Nat.zero_le _, rfl, rfl, by omega, ho2, hb2⟩
    case round =>
      clear ho2 hb2
      obtain ⟨k, n3, c3, A3, ys, hk, rfl, rfl, hn3, ho3, hb3⟩ := hrel
      have r3 := r1.below hb3 r1.lt
      obtain ⟨j0, j1, j2⟩ := three_cells r3
      by_cases hlt : k < n
      · have e1 : decide ((k : Int) < (n : Int)) = true := by simp; omega
        have e1' : decide (k < n) = true := by simp; omega
        obtain ⟨b, off, rfl, hbl, hcell⟩ := (hx1.arrs.below hb3).get hlt
        obtain ⟨q1, q2⟩ := hcell k hlt
        have hsz := F2.out (gA p.arrs k) (gA_mem (by rw [HnA.out]; exact hlt))
        clear hcell
        obtain ⟨x, hxe⟩ : ∃ x, x = gA p.arrs k := ⟨_, rfl⟩
        rw [← hxe] at q1 q2 hsz
        clear hxe
        obtain ⟨wd, sz⟩ := x
        dsimp only at q1 q2 hsz
        obtain ⟨s, rfl⟩ : ∃ s : Nat, sz = (s : Int) := ⟨sz.toNat, by omega⟩
        cases wd with
        | true =>
          have H3 := putFewR w1.heap.size A3 n3 c3 ys (2 * s + 1) wr ho3.bytesB (by omega) (by omega) hb3.size
          rw [show ((2 * s + 1 : Nat) : Int) = 2 * (s : Int) + 1 by omega] at H3
          have H3 := Lib.hid H3
          go_wp2_with fail
          refine H3.out.mono ?_
          rintro e w6 ⟨A6, n6, c6, xs6, rfl, hn6, ho6, hb6⟩
          clear H3
          go_wp2_with fail
          go_roundw
          case rel => exact ⟨k + 1, n6, c6, A6, xs6, by omega, by go_num, rfl, by omega, ho6, hb3.trans (hb6.mono hb3.size)⟩
          case measure => simp [intOf]; omega
        | false =>
          have H3 := putFewR w1.heap.size A3 n3 c3 ys (2 * s) wr ho3.bytesB (by omega) (by omega) hb3.size
          rw [show ((2 * s : Nat) : Int) = 2 * (s : Int) by omega] at H3
          have H3 := Lib.hid H3
          go_wp2_with fail
          refine H3.out.mono ?_
          rintro e w6 ⟨A6, n6, c6, xs6, rfl, hn6, ho6, hb6⟩
          clear H3
          go_wp2_with fail
          go_roundw
          case rel => exact ⟨k + 1, n6, c6, A6, xs6, by omega, by go_num, rfl, by omega, ho6, hb3.trans (hb6.mono hb3.size)⟩
          case measure => simp [intOf]; omega
      · have e1 : decide ((k : Int) < (n : Int)) = false := by simp; omega
        have e1' : decide (k < n) = false := by simp; omega
        have H4 := Lib.hid (putFewR w1.heap.size A3 n3 c3 ys l wr ho3.bytesB (by omega) (by omega) hb3.size)
        go_wp2_with fail
        refine H4.out.mono ?_
        rintro e w6 ⟨A6, n6, c6, xs6, rfl, hn6, ho6, hb6⟩
        have b6 := hb3.trans (hb6.mono hb3.size)
        have r6 := r1.below b6 r1.lt
        clear H4 j0 j1 j2 r3
        obtain ⟨j0, j1, j2⟩ := three_cells r6
        have H5 := Lib.hid (putFewR w1.heap.size A6 n6 c6 xs6 n' w6 ho6.bytesB (by omega) (by omega) b6.size)
        go_wp2_with fail
        refine H5.out.mono ?_
        rintro e w7 ⟨A7, n7, c7, xs7, rfl, hn7, ho7, hb7⟩
        have b7 := b6.trans (hb7.mono b6.size)
        have hn7' : n7 ≤ 1100 := by omega
        clear H5 j0 j1 j2 r6 ho6 hb6 b6 ho3 hn6 hn3 hb7 hb3 e1 e1'
        go_wp2_with fail
        go_loopw [5, 8] (fun d i wr => ∃ (k n3 c3 : Nat) (A3 : Option Addr) (ys : List UInt8), k ≤ n' ∧ i = .int .i64 (k : Int) ∧ d = .slice A3 n3 c3 ∧ n3 ≤ 1100 + 9 * k ∧ Own encB wr w1.heap.size 5 A3 n3 c3 ys ∧ Below w1.heap.size w1 wr) (fun _ i _ => n' - (intOf i).toNat)
        case atStart => exact ⟨0, _, _, _, _, Nat.zero_le _, rfl, rfl, by omega, ho7, b7⟩
        case round =>
          clear ho7 b7 hn7 hn7'
          obtain ⟨k, n3, c3, A3, ys, hk, rfl, rfl, hn3, ho3, hb3⟩ := hrel
          have r3 := r1.below hb3 r1.lt
          obtain ⟨j0, j1, j2⟩ := three_cells r3
          by_cases hlt : k < n'
          · have e1 : decide ((k : Int) < (n' : Int)) = true := by simp; omega
            have e1' : decide (k < n') = true := by simp; omega
            have hx3 := hx1.below hb3
            obtain ⟨b, off, rfl, hbl, hcell⟩ := hx3.code.get hlt
            obtain ⟨q1, q2⟩ := hcell k hlt
            obtain ⟨a0, a1, -⟩ := hx1.code.arg hlt
            obtain ⟨o0, o1, -⟩ := chkE_ok (codeE_ok F6.out (gI p.code k) (gI_mem (by rw [HnC.out]; exact hlt)))
            clear hcell
            have HXE := Lib.hid (rfl : gI p.code k = gI p.code k)
            obtain ⟨x, hxe⟩ : ∃ x, x = gI p.code k := ⟨_, rfl⟩
            have Hxe := Lib.hid hxe
            rw [← hxe] at q1 q2 a0 a1 o0 o1
            clear hxe HXE
            obtain ⟨op, arg⟩ := x
            dsimp only at q1 q2 a0 a1 o0 o1
            obtain ⟨o, rfl⟩ : ∃ o : Nat, op = (o : Int) := ⟨op.toNat, by omega⟩
            obtain ⟨g, rfl⟩ : ∃ g : Nat, arg = (g : Int) := ⟨arg.toNat, by omega⟩
            have hv : Hid (encB (UInt8.ofNat o) = .int .u8 (o : Int)) := encB_ofNat (by omega)
            have m1 : Hid (n3 + 1 ≤ maxLen ∧ (n3 + 1) * 1 ≤ 140737488355328) := ⟨by simp [maxLen]; omega, by omega⟩
            have hB3 := hb3.size
            have HC : Hid (∀ W, Below w1.heap.size w1 W → W.cell? ⟨b, off + k * 2, none⟩ = some (.int .i64 (o : Int)) ∧ W.cell? ⟨b, off + k * 2 + 1, none⟩ = some (.int .u32 (g : Int))) := fun W hW => by
              obtain ⟨b', off', e', -, hcell'⟩ := (hx1.code.below hW).get hlt
              injection e' with e'
              injection e' with e1 e2
              subst e1 e2
              have := hcell' k hlt
              rw [← Hxe.out] at this
              exact this
            go_wp2_with (at_builtin; refine wpList_pushg (enc := encB) rfl (.tmp 59) (.tmp 67) rfl uB infoB encB_one rfl rfl ho3 hB3 (UInt8.ofNat o) _ hv.out rfl m1.out.1 m1.out.2 ?_; intro A6 c6 W6 ho6 hb6 hg6; have b6 := hb3.trans hb6; have r6 := r1.below b6 r1.lt; obtain ⟨s0, s1, s2⟩ := three_cells r6; obtain ⟨p1, p2⟩ := HC.out W6 b6)
            have H7 := Lib.hid (hasArg_any (o : Int) W6)
            obtain ⟨xa, hxa⟩ : ∃ xa, xa = (opX (o : Int)).arg := ⟨_, rfl⟩
            rw [← hxa] at H7
            clear hxa hg6
            refine H7.out.mono ?_
            rintro e w7 ⟨rfl, hw7⟩
            obtain rfl : W6 = w7 := hw7.symm
            clear H7
            cases xa with
            | false =>
              go_wp2_with fail
              go_roundw
              case rel => exact ⟨k + 1, _, _, _, _, by omega, by go_num, rfl, by omega, ho6, b6⟩
              case measure => simp [intOf]; omega
            | true =>
              have H8 := Lib.hid (putFewR w1.heap.size A6 (n3 + 1) c6 _ g _ ho6.bytesB (by omega) (by omega) b6.size)
              go_wp2_with fail
              refine H8.out.mono ?_
              rintro e w9 ⟨A9, n9, c9, xs9, rfl, hn9, ho9, hb9⟩
              clear H8
              have b9 := b6.trans (hb9.mono b6.size)
              go_wp2_with fail
              go_roundw
              case rel => exact ⟨k + 1, n9, c9, A9, xs9, by omega, by go_num, rfl, by omega, ho9, b9⟩
              case measure => simp [intOf]; omega
          · have e1 : decide ((k : Int) < (n' : Int)) = false := by simp; omega
            have e1' : decide (k < n') = false := by simp; omega
            go_wp2_with fail
            go_ret2
            rw [Hfe.out]
            exact ⟨_, _, _, rfl, b1.trans (hb3.mono b1.size)⟩
  · have d1 : (fe != 0) = true := by simp [h1]
    go_wp2_with fail
    go_ret2
    exact ⟨none, 0, 0, rfl, b1⟩
end Go.Proofs.YtmijalhilalaoaaDoor
