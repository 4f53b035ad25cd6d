/- Contract of the reference of layer 17: Print. (Printed by wip/mkref17.py.) -/
import Derived.Test.YtmijalhilalaoaaDoorTj
namespace Go.Proofs.YtmijalhilalaoaaDoor
open Go.RowKit Go.Proofs
set_option linter.unusedVariables false

theorem nlTo_arr (l : List Arr) (k : Nat) : nlAll (arrsTo l (k + 1)) = nlAll (arrsTo l k) ++ (arrL k (gA l k) ++ [10]) := by rw [arrsTo_succ, nlAll_append, nlAll_one]
theorem nlTo_loc (a : List (List UInt8)) (k : Nat) : nlAll (a ++ locsTo (k + 1)) = nlAll (a ++ locsTo k) ++ (locL k ++ [10]) := by rw [locsTo_succ, ← List.append_assoc, nlAll_append, nlAll_one]
theorem nlTo_row (a : List (List UInt8)) (c : List Ins) (k : Nat) : nlAll (a ++ rowsTo c (k + 1)) = nlAll (a ++ rowsTo c k) ++ (rowL c k ++ [10]) := by rw [rowsTo_succ, ← List.append_assoc, nlAll_append, nlAll_one]
theorem spL_succ (j : Nat) : spL (j + 1) = spL j ++ [32, 32] := by
  unfold spL
  rw [show 2 * (j + 1) = 2 * j + 2 by omega, ← List.replicate_append_replicate]; rfl

set_option maxRecDepth 100000 in
set_option maxHeartbeats 8000000 in
theorem printR_any (A A' : Option Addr) (n c n' c' : Nat) (L : Int) (p : Prg) (w : World) (hx : Progs w A n c L A' n' c' p) :
    Calls Tryd.prog 11 #[.agg #[.slice A n c, .int .i64 L, .slice A' n' c']] w (RetSE w (printT p) (printE p)) := by
  have HnA := Lib.hid hx.arrs.1
  have HnC := Lib.hid hx.code.1
  have HL := Lib.hid hx.locs
  have hwf := Lib.hid hx.wf
  have g0 : Below w.heap.size w (w.alloc (.cells #[.slice A n c, .int .i64 L, .slice A' n' c'] 25)) := balloc (Below.refl _ _) _
  have r0 := rowV.new w 25 #[.slice A n c, .int .i64 L, .slice A' n' c']
  have hx0 := hx.below g0
  obtain ⟨w0, hw0⟩ : ∃ w0, w0 = w.alloc (.cells #[.slice A n c, .int .i64 L, .slice A' n' c'] 25) := ⟨_, rfl⟩
  rw [← hw0] at g0 r0 hx0
  have H1 := Lib.hid (encodeR_any A A' n c n' c' L p w0 hx0)
  obtain ⟨c0, c1, c2⟩ := three_cells r0
  go_enter Tryd.func11, Tryd.ntmps11
  go_wp2_with fail
  rw [← hw0]
  clear hw0
  refine H1.out.mono ?_
  rintro e w1 ⟨A1, n1, q1, rfl, hb1⟩
  have b1 := g0.trans (hb1.mono g0.size)
  have r1 := r0.below hb1 r0.lt
  have hx1 := hx0.below hb1
  clear H1 hx0 g0 hb1 c0 c1 c2 r0
  obtain ⟨c0, c1, c2⟩ := three_cells r1
  by_cases h1 : formE p = 0
  · have d1 : (formE p != 0) = false := by simp [h1]
    obtain ⟨f1, f2, f3, f4, f5, f6⟩ := formE_ok h1
    rw [HnA.out] at f1
    rw [HnC.out] at f5
    rw [← HL.out] at f3 f4
    have hF := Lib.hid h1
    have F2 := Lib.hid f2
    clear f2 f6 h1
    obtain ⟨l, rfl⟩ : ∃ l : Nat, L = (l : Int) := ⟨L.toNat, by omega⟩
    have hN0 : Hid (nlAll (arrsTo p.arrs 0) = []) := rfl
    have hz : Value.string ⟨#[]⟩ = .string (strB []) := rfl
    have Hz := Lib.hid hz
    clear hz
    go_wp2_with fail
    go_loopw [6, 7] (fun s i wr => ∃ (k : Nat) (x : List UInt8), k ≤ n ∧ i = .int .i64 (k : Int) ∧ s = .string (strB x) ∧ Hid (x = nlAll (arrsTo p.arrs k)) ∧ x.length ≤ 114 * k ∧ Below w1.heap.size w1 wr) (fun _ i _ => n - (intOf i).toNat)
    case atStart => exact ⟨0, [], Nat.zero_le _, rfl, Hz.out, hN0.out.symm, by simp, Below.refl _ _⟩
    case round =>
      clear hN0 c0 c1 c2
      obtain ⟨k, x, hk, rfl, rfl, HX, hxl, hb3⟩ := hrel
      have r3 := r1.below hb3 r1.lt
      obtain ⟨c0, c1, c2⟩ := three_cells r3
      by_cases hlt : k < n
      · have e1 : decide ((k : Int) < (n : Int)) = true := by simp; omega
        have e1' : decide (k < n) = true := by simp; omega
        obtain ⟨b, off, rfl, hbl, hcell⟩ := (hx1.arrs.below hb3).get hlt
        obtain ⟨q1, q2⟩ := hcell k hlt
        have hsz := F2.out (gA p.arrs k) (gA_mem (by rw [HnA.out]; exact hlt))
        clear hcell
        have HS := Lib.hid (nlTo_arr p.arrs k)
        obtain ⟨y, hye⟩ : ∃ y, y = gA p.arrs k := ⟨_, rfl⟩
        rw [← hye] at q1 q2 hsz HS
        clear hye
        obtain ⟨wd, sz⟩ := y
        dsimp only at q1 q2 hsz
        obtain ⟨s, rfl⟩ : ∃ s : Nat, sz = (s : Int) := ⟨sz.toNat, by omega⟩
        have zk : (strB (decS k)).size ≤ 11 := decS_le (n := k) (by omega)
        have zs : (strB (decS s)).size ≤ 11 := decS_le (n := s) (by omega)
        have zx := strB_size x
        have s1 : ¬ 9223372036854775807 < 7 + (strB (decS k)).size := by omega
        have s2 : ¬ 9223372036854775807 < 7 + (strB (decS k)).size + 1 := by omega
        have s3 : ¬ 9223372036854775807 < 7 + (strB (decS k)).size + 1 + (strB (decS s)).size := by omega
        have s4 : ¬ 9223372036854775807 < 7 + (strB (decS k)).size + 1 + (strB (decS s)).size + 1 := by omega
        have s5 : ¬ 9223372036854775807 < (strB x).size + (7 + (strB (decS k)).size + 1 + (strB (decS s)).size + 1) := by omega
        have s1b : ((⟨#[119, 111, 114, 100, 115]⟩ : ByteArray) ++ (⟨#[32, 97]⟩ : ByteArray)).size = 7 := by kernel_rfl
        have s1c : ((⟨#[98, 121, 116, 101, 115]⟩ : ByteArray) ++ (⟨#[32, 97]⟩ : ByteArray)).size = 7 := by kernel_rfl
        have hlA := arrL_le (k := k) (x := ⟨wd, (s : Int)⟩) (by omega) (by dsimp only; omega)
        have HV : Hid (Value.string (strB x ++ (strB (kindL wd) ++ (⟨#[32, 97]⟩ : ByteArray) ++ strB (decS k) ++ (⟨#[32]⟩ : ByteArray) ++ strB (decS s) ++ (⟨#[10]⟩ : ByteArray))) = .string (strB (x ++ (arrL k ⟨wd, (s : Int)⟩ ++ [10])))) := by
          show _ = Value.string (strB (x ++ (kindL wd ++ [32, 97] ++ decS k ++ [32] ++ decS s ++ [10])))
          rw [← strB_append, ← strB_append, ← strB_append, ← strB_append, ← strB_append, ← strB_append]; rfl
        have HXn : Hid (x ++ (arrL k ⟨wd, (s : Int)⟩ ++ [10]) = nlAll (arrsTo p.arrs (k + 1))) := by show _ = _; rw [HS.out, HX.out]
        have hxl' : (x ++ (arrL k ⟨wd, (s : Int)⟩ ++ [10])).length ≤ 114 * (k + 1) := by rw [List.length_append, List.length_append]; simp; omega
        have HK := Lib.hid (fun w => decimalR_any k w (by omega))
        have HZ := Lib.hid (fun w => decimalR_any s w (by omega))
        clear zx zk zs hlA
        cases wd with
        | true =>
          go_wp2_with fail
          go_quiet (first | (go_at_call_of 30 (Value.int .i64 (k : Int)); exact Calls.quiet_of_same (HK.out _)) | (go_at_call_of 30 (Value.int .i64 (s : Int)); exact Calls.quiet_of_same (HZ.out _)))
          go_wp2_with fail
          go_roundw
          case rel => exact ⟨k + 1, _, by omega, by go_num, HV.out, HXn.out, hxl', bdrew hb3 _⟩
          case measure => simp [intOf]; omega
        | false =>
          go_wp2_with fail
          go_quiet (first | (go_at_call_of 30 (Value.int .i64 (k : Int)); exact Calls.quiet_of_same (HK.out _)) | (go_at_call_of 30 (Value.int .i64 (s : Int)); exact Calls.quiet_of_same (HZ.out _)))
          go_wp2_with fail
          go_roundw
          case rel => exact ⟨k + 1, _, by omega, by go_num, HV.out, HXn.out, hxl', bdrew hb3 _⟩
          case measure => simp [intOf]; omega
      · have e1 : decide ((k : Int) < (n : Int)) = false := by simp; omega
        have e1' : decide (k < n) = false := by simp; omega
        obtain rfl : n = k := by omega
        have hN1 : Hid (x = nlAll (arrsTo p.arrs n ++ locsTo 0)) := by show _ = _; rw [HX.out]; unfold locsTo; simp
        go_wp2_with fail
        go_loopw [6, 9] (fun s i wr => ∃ (k : Nat) (x : List UInt8), k ≤ l ∧ i = .int .i64 (k : Int) ∧ s = .string (strB x) ∧ Hid (x = nlAll (arrsTo p.arrs n ++ locsTo k)) ∧ x.length ≤ 1000 + 114 * k ∧ Below w1.heap.size w1 wr) (fun _ i _ => l - (intOf i).toNat)
        case atStart => exact ⟨0, x, Nat.zero_le _, rfl, rfl, hN1.out, by omega, hb3⟩
        case round =>
          clear hN1 c0 c1 c2 HX hxl hb3 r3
          obtain ⟨k, x, hk, rfl, rfl, HX, hxl, hb3⟩ := hrel
          have r3 := r1.below hb3 r1.lt
          obtain ⟨c0, c1, c2⟩ := three_cells r3
          by_cases hlt : k < l
          · have e2 : decide ((k : Int) < (l : Int)) = true := by simp; omega
            have e2' : decide (k < l) = true := by simp; omega
            have zk : (strB (decS k)).size ≤ 11 := decS_le (n := k) (by omega)
            have zx := strB_size x
            have s1 : ¬ 9223372036854775807 < 7 + (strB (decS k)).size := by omega
            have s2 : ¬ 9223372036854775807 < 7 + (strB (decS k)).size + 1 := by omega
            have s5 : ¬ 9223372036854775807 < (strB x).size + (7 + (strB (decS k)).size + 1) := by omega
            have hlA := locL_le (k := k) (by omega)
            have HS := Lib.hid (nlTo_loc (arrsTo p.arrs n) k)
            have HV : Hid (Value.string (strB x ++ ((⟨#[108, 111, 99, 97, 108, 32, 108]⟩ : ByteArray) ++ strB (decS k) ++ (⟨#[10]⟩ : ByteArray))) = .string (strB (x ++ (locL k ++ [10])))) := by
              show _ = Value.string (strB (x ++ ([108, 111, 99, 97, 108, 32, 108] ++ decS k ++ [10])))
              rw [← strB_append, ← strB_append, ← strB_append]; rfl
            have HXn : Hid (x ++ (locL k ++ [10]) = nlAll (arrsTo p.arrs n ++ locsTo (k + 1))) := by show _ = _; rw [HS.out, HX.out]
            have hxl' : (x ++ (locL k ++ [10])).length ≤ 1000 + 114 * (k + 1) := by rw [List.length_append, List.length_append]; simp; omega
            have HK := Lib.hid (fun w => decimalR_any k w (by omega))
            clear zx zk hlA
            go_wp2_with fail
            refine (HK.out _).mono ?_
            rintro e w6 ⟨rfl, hw6⟩
            obtain rfl : wr = w6 := hw6.symm
            go_wp2_with fail
            go_roundw
            case rel => exact ⟨k + 1, _, by omega, by go_num, HV.out, HXn.out, hxl', hb3⟩
            case measure => simp [intOf]; omega
          · have e2 : decide ((k : Int) < (l : Int)) = false := by simp; omega
            have e2' : decide (k < l) = false := by simp; omega
            obtain rfl : l = k := by omega
            have hN2 : Hid (x = nlAll (declL p ++ rowsTo p.code 0)) := by
              show _ = _
              rw [HX.out]; unfold declL rowsTo; rw [HnA.out, ← HL.out]; simp
            have hE0 : Hid (exTo p 0) := fun j hj => absurd hj (by omega)
            go_wp2_with fail
            go_loopw [6, 10, 11] (fun s d i wr => ∃ (k : Nat) (x : List UInt8), k ≤ n' ∧ i = .int .i64 (k : Int) ∧ d = .int .i64 ((dAt p.code k : Nat) : Int) ∧ s = .string (strB x) ∧ Hid (x = nlAll (declL p ++ rowsTo p.code k)) ∧ x.length ≤ 3000 + 3000 * k ∧ Hid (exTo p k) ∧ Below w1.heap.size w1 wr) (fun _ _ i _ => n' - (intOf i).toNat)
            case atStart => exact ⟨0, x, Nat.zero_le _, rfl, rfl, rfl, hN2.out, by omega, hE0.out, hb3⟩
            case round =>
              clear hN2 c0 c1 c2 HX hxl hb3 r3 hE0
              obtain ⟨k, x, hk, rfl, rfl, rfl, HX, hxl, HE, hb3⟩ := hrel
              have r3 := r1.below hb3 r1.lt
              obtain ⟨c0, c1, c2⟩ := three_cells r3
              by_cases hlt : k < n'
              · have e1 : decide ((k : Int) < (n' : Int)) = true := by simp; omega
                have e1' : decide (k < n') = true := by simp; omega
                obtain ⟨b, off, rfl, hbl1, hcell⟩ := hx1.code.get hlt
                obtain ⟨q1, q2⟩ := hcell k hlt
                obtain ⟨a0, a1, -⟩ := hx1.code.arg hlt
                clear hcell
                have q1 := (hb3.cell (p := ⟨b, off + k * 2, none⟩) hbl1).trans q1
                have q2 := (hb3.cell (p := ⟨b, off + k * 2 + 1, none⟩) hbl1).trans q2
                have hbl : b < wr.heap.size := Nat.lt_of_lt_of_le hbl1 hb3.size
                have hr3 := r3.lt
                have HS := Lib.hid (nlTo_row (declL p) p.code k)
                have HR : Hid (rowL p.code k = spL (dSp (dAt p.code k) (gI p.code k).op) ++ lineL (gI p.code k)) := rfl
                have HD : Hid (dAt p.code (k + 1) = dNext (dAt p.code k) (gI p.code k).op) := rfl
                have HB := Lib.hid (fun h => exAll_false (p := p) (k := k) (by rw [HnC.out]; exact hlt) h)
                have HG := Lib.hid (fun h => HE.out.step (k := k) h)
                have hdk := dAt_le p.code k
                have zl := lineL_le a1
                have zs := dSp_le (dAt p.code k) (gI p.code k).op
                rw [HnA.out] at HB HG
                rw [← HL.out] at HB HG
                obtain ⟨y, hye⟩ : ∃ y, y = gI p.code k := ⟨_, rfl⟩
                rw [← hye] at q1 q2 a0 a1 HR HD HB HG zl zs
                clear hye HE
                obtain ⟨op, arg⟩ := y
                dsimp only at q1 q2 a0 a1
                have H5 := Lib.hid (existsR_any A (some ⟨b, off, none⟩) n c n' c' (l : Int) ⟨op, arg⟩ wr.drew hwf.out (by omega) a0 a1)
                have H6 := Lib.hid (fun W => lineR_any ⟨op, arg⟩ W a0 a1)
                obtain ⟨xe, hxe⟩ : ∃ xe, xe = exL (l : Int) n ⟨op, arg⟩ := ⟨_, rfl⟩
                rw [← hxe] at HB HG H5
                clear hxe
                obtain ⟨ln, hln⟩ : ∃ ln, ln = lineL ⟨op, arg⟩ := ⟨_, rfl⟩
                rw [← hln] at HR zl H6
                clear hln
                obtain ⟨dk, hdk'⟩ : ∃ dk, dk = dAt p.code k := ⟨_, rfl⟩
                rw [← hdk'] at hdk zs HR HD ⊢
                clear hdk'
                go_wp2_with fail
                go_region_held3 (fun W => W.cell? ⟨w.heap.size, 0, none⟩ = some (.slice A n c) ∧ W.cell? ⟨w.heap.size, 1, none⟩ = some (.int .i64 (l : Int)) ∧ W.cell? ⟨w.heap.size, 2, none⟩ = some (.slice (some ⟨b, off, none⟩) n' c') ∧ W.cell? ⟨b, off + k * 2, none⟩ = some (.int .i64 op) ∧ W.cell? ⟨b, off + k * 2 + 1, none⟩ = some (.int .u32 arg))
                  (first
                    | go_keep
                    | exact ⟨(hb6.cell (p := ⟨w.heap.size, 0, none⟩) hr3).trans c0, (hb6.cell (p := ⟨w.heap.size, 1, none⟩) hr3).trans c1, (hb6.cell (p := ⟨w.heap.size, 2, none⟩) hr3).trans c2, (hb6.cell (p := ⟨b, off + k * 2, none⟩) hbl).trans q1, (hb6.cell (p := ⟨b, off + k * 2 + 1, none⟩) hbl).trans q2⟩)
                  (first
                    | (go_at_call 31; refine H5.out.mono ?_; rintro e w6 ⟨rfl, hb6⟩))
                have b6 := hb3.trans ((((Drawn.drewN wr 1).below _).trans hb6).mono hb3.size)
                have r6 := r1.below b6 r1.lt
                have q1 := (hb6.cell (p := ⟨b, off + k * 2, none⟩) hbl).trans q1
                have q2 := (hb6.cell (p := ⟨b, off + k * 2 + 1, none⟩) hbl).trans q2
                clear c0 c1 c2 H5 hbl hr3 r3 hb6 hb3
                obtain ⟨c0, c1, c2⟩ := three_cells r6
                have b16 := b1.trans (b6.mono b1.size)
                cases xe with
                | false =>
                  obtain ⟨z1, z2⟩ := printE_none hF.out (HB.out rfl)
                  have Z1 := Lib.hid z1
                  have Z2 := Lib.hid z2
                  clear z1 z2
                  go_wp2_with fail
                  go_ret2
                  exact ret_se rfl Z2.out Z1.out b16
                | true =>
                  have HGo : Hid (exTo p (k + 1)) := HG.out (by first | exact trivial | rfl)
                  clear HB HG
                  have s0 : ¬ 9223372036854775807 < (strB ln).size + 1 := by rw [strB_size]; omega
                  have hlenR : ∀ m, m ≤ dk → (x ++ (spL m ++ ln ++ [10])).length ≤ 3000 + 3000 * (k + 1) := fun m hm => by
                    unfold spL; simp only [List.length_append, List.length_replicate, List.length_cons, List.length_nil]; omega
                  have hlenS : ∀ m, m ≤ dk → (x ++ spL m).length ≤ 3000 + 3000 * (k + 1) := fun m hm => by
                    unfold spL; simp only [List.length_append, List.length_replicate]; omega
                  have HlR := Lib.hid hlenR
                  have HlS := Lib.hid hlenS
                  clear hlenR hlenS
                  have hkk : k ≤ 1024 := by omega
                  have hd0 : Value.string (strB x) = .string (strB (x ++ spL 0)) := by unfold spL; simp
                  have Hd0 := Lib.hid hd0
                  clear hd0
                  by_cases o1 : op = 31
                  · subst o1
                    have hsd : Hid (dSp dk 31 = dk - 1) := rfl
                    have hdn : Hid (dAt p.code (k + 1) = dk - 1) := by show _ = _; rw [HD.out]; exact rfl
                    have hm : max ((dk : Int) - 1) 0 = ((dk - 1 : Nat) : Int) := by omega
                    have hSD : dk - 1 ≤ dk := by omega
                    have HRr : Hid (x ++ (spL (dk - 1) ++ ln ++ [10]) = nlAll (declL p ++ rowsTo p.code (k + 1))) := by
                      show _ = _
                      rw [HS.out, HX.out, HR.out]
                      first | rw [hsd.out] | (dsimp only; rw [hsd.out])
                    clear HS HR HD hsd zs
                    go_wp2_with fail
                    go_loop [6, 14] (fun s j => ∃ m : Nat, m ≤ dk - 1 ∧ j = .int .i64 (m : Int) ∧ s = .string (strB (x ++ spL m))) (fun _ j => (dk - 1) - (intOf j).toNat)
                    case atStart => exact ⟨0, Nat.zero_le _, rfl, Hd0.out⟩
                    case round =>
                      obtain ⟨m, hm1, rfl, rfl⟩ := hrel
                      have hlm := HlS.out m (by omega)
                      by_cases hml : m < dk - 1
                      · have f1 : decide ((m : Int) < ((dk - 1 : Nat) : Int)) = true := by simp; omega
                        have f1' : decide (m < dk - 1) = true := by simp; omega
                        have s6 : ¬ 9223372036854775807 < (strB (x ++ spL m)).size + 2 := by rw [strB_size]; omega
                        have HV : Hid (Value.string (strB (x ++ spL m) ++ (⟨#[32, 32]⟩ : ByteArray)) = .string (strB (x ++ spL (m + 1)))) := by
                          show _ = _
                          rw [spL_succ, ← List.append_assoc, ← strB_append (x ++ spL m)]; rfl
                        go_wp2_with fail
                        go_round
                        case rel => exact ⟨m + 1, by omega, by go_num, HV.out⟩
                        case measure => simp [intOf]; omega
                      · have f1 : decide ((m : Int) < ((dk - 1 : Nat) : Int)) = false := by simp; omega
                        have f1' : decide (m < dk - 1) = false := by simp; omega
                        obtain hmm : m = dk - 1 := by omega
                        rw [← hmm] at HRr
                        have s6 : ¬ 9223372036854775807 < (strB (x ++ spL m)).size + ((strB ln).size + 1) := by rw [strB_size] at s0 ⊢; rw [strB_size]; omega
                        have HV : Hid (Value.string (strB (x ++ spL m) ++ (strB ln ++ (⟨#[10]⟩ : ByteArray))) = .string (strB (x ++ (spL m ++ ln ++ [10])))) := by
                          show _ = _
                          rw [show x ++ (spL m ++ ln ++ [10]) = (x ++ spL m) ++ (ln ++ [10]) by simp, ← strB_append (x ++ spL m), ← strB_append ln]; rfl
                        have hlr := HlR.out m (by omega)
                        clear hmm
                        go_wp2_with fail
                        refine (H6.out _).mono ?_
                        rintro e w7 ⟨rfl, hb7⟩
                        have b7 := b6.trans (hb7.mono b6.size)
                        go_wp2_with fail
                        go_roundw
                        case rel => exact ⟨k + 1, _, by omega, by go_num, by first | (rw [hdn.out]; done) | (rw [hdn.out]; rfl) | (rw [hdn.out]; go_num), HV.out, HRr.out, hlr, HGo.out, b7⟩
                        case measure => simp [intOf]; omega
                  have d31 : (op == 31) = false := by simpa using o1
                  by_cases o2 : op = 28
                  · subst o2
                    have hsd : Hid (dSp dk 28 = dk - 1) := rfl
                    have hdn : Hid (dAt p.code (k + 1) = dk) := by show _ = _; rw [HD.out]; exact rfl
                    have hm : max ((dk : Int) - 1) 0 = ((dk - 1 : Nat) : Int) := by omega
                    have hSD : dk - 1 ≤ dk := by omega
                    have HRr : Hid (x ++ (spL (dk - 1) ++ ln ++ [10]) = nlAll (declL p ++ rowsTo p.code (k + 1))) := by
                      show _ = _
                      rw [HS.out, HX.out, HR.out]
                      first | rw [hsd.out] | (dsimp only; rw [hsd.out])
                    clear HS HR HD hsd zs
                    go_wp2_with fail
                    go_loop [6, 14] (fun s j => ∃ m : Nat, m ≤ dk - 1 ∧ j = .int .i64 (m : Int) ∧ s = .string (strB (x ++ spL m))) (fun _ j => (dk - 1) - (intOf j).toNat)
                    case atStart => exact ⟨0, Nat.zero_le _, rfl, Hd0.out⟩
                    case round =>
                      obtain ⟨m, hm1, rfl, rfl⟩ := hrel
                      have hlm := HlS.out m (by omega)
                      by_cases hml : m < dk - 1
                      · have f1 : decide ((m : Int) < ((dk - 1 : Nat) : Int)) = true := by simp; omega
                        have f1' : decide (m < dk - 1) = true := by simp; omega
                        have s6 : ¬ 9223372036854775807 < (strB (x ++ spL m)).size + 2 := by rw [strB_size]; omega
                        have HV : Hid (Value.string (strB (x ++ spL m) ++ (⟨#[32, 32]⟩ : ByteArray)) = .string (strB (x ++ spL (m + 1)))) := by
                          show _ = _
                          rw [spL_succ, ← List.append_assoc, ← strB_append (x ++ spL m)]; rfl
                        go_wp2_with fail
                        go_round
                        case rel => exact ⟨m + 1, by omega, by go_num, HV.out⟩
                        case measure => simp [intOf]; omega
                      · have f1 : decide ((m : Int) < ((dk - 1 : Nat) : Int)) = false := by simp; omega
                        have f1' : decide (m < dk - 1) = false := by simp; omega
                        obtain hmm : m = dk - 1 := by omega
                        rw [← hmm] at HRr
                        have s6 : ¬ 9223372036854775807 < (strB (x ++ spL m)).size + ((strB ln).size + 1) := by rw [strB_size] at s0 ⊢; rw [strB_size]; omega
                        have HV : Hid (Value.string (strB (x ++ spL m) ++ (strB ln ++ (⟨#[10]⟩ : ByteArray))) = .string (strB (x ++ (spL m ++ ln ++ [10])))) := by
                          show _ = _
                          rw [show x ++ (spL m ++ ln ++ [10]) = (x ++ spL m) ++ (ln ++ [10]) by simp, ← strB_append (x ++ spL m), ← strB_append ln]; rfl
                        have hlr := HlR.out m (by omega)
                        clear hmm
                        go_wp2_with fail
                        refine (H6.out _).mono ?_
                        rintro e w7 ⟨rfl, hb7⟩
                        have b7 := b6.trans (hb7.mono b6.size)
                        go_wp2_with fail
                        go_roundw
                        case rel => exact ⟨k + 1, _, by omega, by go_num, by first | (rw [hdn.out]; done) | (rw [hdn.out]; rfl) | (rw [hdn.out]; go_num), HV.out, HRr.out, hlr, HGo.out, b7⟩
                        case measure => simp [intOf]; omega
                  have d28 : (op == 28) = false := by simpa using o2
                  by_cases o3 : op = 27
                  · subst o3
                    have hsd : Hid (dSp dk 27 = dk) := rfl
                    have hdn : Hid (dAt p.code (k + 1) = dk + 1) := by show _ = _; rw [HD.out]; exact rfl
                    have hSD : dk ≤ dk := by omega
                    have HRr : Hid (x ++ (spL (dk) ++ ln ++ [10]) = nlAll (declL p ++ rowsTo p.code (k + 1))) := by
                      show _ = _
                      rw [HS.out, HX.out, HR.out]
                      first | rw [hsd.out] | (dsimp only; rw [hsd.out])
                    clear HS HR HD hsd zs
                    go_wp2_with fail
                    go_loop [6, 14] (fun s j => ∃ m : Nat, m ≤ dk ∧ j = .int .i64 (m : Int) ∧ s = .string (strB (x ++ spL m))) (fun _ j => (dk) - (intOf j).toNat)
                    case atStart => exact ⟨0, Nat.zero_le _, rfl, Hd0.out⟩
                    case round =>
                      obtain ⟨m, hm1, rfl, rfl⟩ := hrel
                      have hlm := HlS.out m (by omega)
                      by_cases hml : m < dk
                      · have f1 : decide ((m : Int) < ((dk : Nat) : Int)) = true := by simp; omega
                        have f1' : decide (m < dk) = true := by simp; omega
                        have s6 : ¬ 9223372036854775807 < (strB (x ++ spL m)).size + 2 := by rw [strB_size]; omega
                        have HV : Hid (Value.string (strB (x ++ spL m) ++ (⟨#[32, 32]⟩ : ByteArray)) = .string (strB (x ++ spL (m + 1)))) := by
                          show _ = _
                          rw [spL_succ, ← List.append_assoc, ← strB_append (x ++ spL m)]; rfl
                        go_wp2_with fail
                        go_round
                        case rel => exact ⟨m + 1, by omega, by go_num, HV.out⟩
                        case measure => simp [intOf]; omega
                      · have f1 : decide ((m : Int) < ((dk : Nat) : Int)) = false := by simp; omega
                        have f1' : decide (m < dk) = false := by simp; omega
                        obtain hmm : m = dk := by omega
                        rw [← hmm] at HRr
                        have s6 : ¬ 9223372036854775807 < (strB (x ++ spL m)).size + ((strB ln).size + 1) := by rw [strB_size] at s0 ⊢; rw [strB_size]; omega
                        have HV : Hid (Value.string (strB (x ++ spL m) ++ (strB ln ++ (⟨#[10]⟩ : ByteArray))) = .string (strB (x ++ (spL m ++ ln ++ [10])))) := by
                          show _ = _
                          rw [show x ++ (spL m ++ ln ++ [10]) = (x ++ spL m) ++ (ln ++ [10]) by simp, ← strB_append (x ++ spL m), ← strB_append ln]; rfl
                        have hlr := HlR.out m (by omega)
                        clear hmm
                        go_wp2_with fail
                        refine (H6.out _).mono ?_
                        rintro e w7 ⟨rfl, hb7⟩
                        have b7 := b6.trans (hb7.mono b6.size)
                        go_wp2_with fail
                        go_roundw
                        case rel => exact ⟨k + 1, _, by omega, by go_num, by first | (rw [hdn.out]; done) | (rw [hdn.out]; rfl) | (rw [hdn.out]; go_num), HV.out, HRr.out, hlr, HGo.out, b7⟩
                        case measure => simp [intOf]; omega
                  have d27 : (op == 27) = false := by simpa using o3
                  by_cases o4 : op = 29
                  · subst o4
                    have hsd : Hid (dSp dk 29 = dk) := rfl
                    have hdn : Hid (dAt p.code (k + 1) = dk + 1) := by show _ = _; rw [HD.out]; exact rfl
                    have hSD : dk ≤ dk := by omega
                    have HRr : Hid (x ++ (spL (dk) ++ ln ++ [10]) = nlAll (declL p ++ rowsTo p.code (k + 1))) := by
                      show _ = _
                      rw [HS.out, HX.out, HR.out]
                      first | rw [hsd.out] | (dsimp only; rw [hsd.out])
                    clear HS HR HD hsd zs
                    go_wp2_with fail
                    go_loop [6, 14] (fun s j => ∃ m : Nat, m ≤ dk ∧ j = .int .i64 (m : Int) ∧ s = .string (strB (x ++ spL m))) (fun _ j => (dk) - (intOf j).toNat)
                    case atStart => exact ⟨0, Nat.zero_le _, rfl, Hd0.out⟩
                    case round =>
                      obtain ⟨m, hm1, rfl, rfl⟩ := hrel
                      have hlm := HlS.out m (by omega)
                      by_cases hml : m < dk
                      · have f1 : decide ((m : Int) < ((dk : Nat) : Int)) = true := by simp; omega
                        have f1' : decide (m < dk) = true := by simp; omega
                        have s6 : ¬ 9223372036854775807 < (strB (x ++ spL m)).size + 2 := by rw [strB_size]; omega
                        have HV : Hid (Value.string (strB (x ++ spL m) ++ (⟨#[32, 32]⟩ : ByteArray)) = .string (strB (x ++ spL (m + 1)))) := by
                          show _ = _
                          rw [spL_succ, ← List.append_assoc, ← strB_append (x ++ spL m)]; rfl
                        go_wp2_with fail
                        go_round
                        case rel => exact ⟨m + 1, by omega, by go_num, HV.out⟩
                        case measure => simp [intOf]; omega
                      · have f1 : decide ((m : Int) < ((dk : Nat) : Int)) = false := by simp; omega
                        have f1' : decide (m < dk) = false := by simp; omega
                        obtain hmm : m = dk := by omega
                        rw [← hmm] at HRr
                        have s6 : ¬ 9223372036854775807 < (strB (x ++ spL m)).size + ((strB ln).size + 1) := by rw [strB_size] at s0 ⊢; rw [strB_size]; omega
                        have HV : Hid (Value.string (strB (x ++ spL m) ++ (strB ln ++ (⟨#[10]⟩ : ByteArray))) = .string (strB (x ++ (spL m ++ ln ++ [10])))) := by
                          show _ = _
                          rw [show x ++ (spL m ++ ln ++ [10]) = (x ++ spL m) ++ (ln ++ [10]) by simp, ← strB_append (x ++ spL m), ← strB_append ln]; rfl
                        have hlr := HlR.out m (by omega)
                        clear hmm
                        go_wp2_with fail
                        refine (H6.out _).mono ?_
                        rintro e w7 ⟨rfl, hb7⟩
                        have b7 := b6.trans (hb7.mono b6.size)
                        go_wp2_with fail
                        go_roundw
                        case rel => exact ⟨k + 1, _, by omega, by go_num, by first | (rw [hdn.out]; done) | (rw [hdn.out]; rfl) | (rw [hdn.out]; go_num), HV.out, HRr.out, hlr, HGo.out, b7⟩
                        case measure => simp [intOf]; omega
                  have d29 : (op == 29) = false := by simpa using o4
                  have hu : Hid (dSp dk op = dk ∧ dNext dk op = dk) := by
                    refine ⟨?_, ?_⟩
                    · unfold dSp; rw [if_neg (by omega)]
                    · unfold dNext; rw [if_neg (by omega), if_neg (by omega)]
                  have hsd : Hid (dSp dk op = dk) := hu.out.1
                  have hdn : Hid (dAt p.code (k + 1) = dk) := by show _ = _; rw [HD.out]; exact hu.out.2
                  have hSD : dk ≤ dk := by omega
                  have HRr : Hid (x ++ (spL (dk) ++ ln ++ [10]) = nlAll (declL p ++ rowsTo p.code (k + 1))) := by
                    show _ = _
                    rw [HS.out, HX.out, HR.out]
                    first | rw [hsd.out] | (dsimp only; rw [hsd.out])
                  clear HS HR HD hsd zs
                  go_wp2_with fail
                  go_loop [6, 14] (fun s j => ∃ m : Nat, m ≤ dk ∧ j = .int .i64 (m : Int) ∧ s = .string (strB (x ++ spL m))) (fun _ j => (dk) - (intOf j).toNat)
                  case atStart => exact ⟨0, Nat.zero_le _, rfl, Hd0.out⟩
                  case round =>
                    obtain ⟨m, hm1, rfl, rfl⟩ := hrel
                    have hlm := HlS.out m (by omega)
                    by_cases hml : m < dk
                    · have f1 : decide ((m : Int) < ((dk : Nat) : Int)) = true := by simp; omega
                      have f1' : decide (m < dk) = true := by simp; omega
                      have s6 : ¬ 9223372036854775807 < (strB (x ++ spL m)).size + 2 := by rw [strB_size]; omega
                      have HV : Hid (Value.string (strB (x ++ spL m) ++ (⟨#[32, 32]⟩ : ByteArray)) = .string (strB (x ++ spL (m + 1)))) := by
                        show _ = _
                        rw [spL_succ, ← List.append_assoc, ← strB_append (x ++ spL m)]; rfl
                      go_wp2_with fail
                      go_round
                      case rel => exact ⟨m + 1, by omega, by go_num, HV.out⟩
                      case measure => simp [intOf]; omega
                    · have f1 : decide ((m : Int) < ((dk : Nat) : Int)) = false := by simp; omega
                      have f1' : decide (m < dk) = false := by simp; omega
                      obtain hmm : m = dk := by omega
                      rw [← hmm] at HRr
                      have s6 : ¬ 9223372036854775807 < (strB (x ++ spL m)).size + ((strB ln).size + 1) := by rw [strB_size] at s0 ⊢; rw [strB_size]; omega
                      have HV : Hid (Value.string (strB (x ++ spL m) ++ (strB ln ++ (⟨#[10]⟩ : ByteArray))) = .string (strB (x ++ (spL m ++ ln ++ [10])))) := by
                        show _ = _
                        rw [show x ++ (spL m ++ ln ++ [10]) = (x ++ spL m) ++ (ln ++ [10]) by simp, ← strB_append (x ++ spL m), ← strB_append ln]; rfl
                      have hlr := HlR.out m (by omega)
                      clear hmm
                      go_wp2_with fail
                      refine (H6.out _).mono ?_
                      rintro e w7 ⟨rfl, hb7⟩
                      have b7 := b6.trans (hb7.mono b6.size)
                      go_wp2_with fail
                      go_roundw
                      case rel => exact ⟨k + 1, _, by omega, by go_num, by first | (rw [hdn.out]; done) | (rw [hdn.out]; rfl) | (rw [hdn.out]; go_num), HV.out, HRr.out, hlr, HGo.out, b7⟩
                      case measure => simp [intOf]; omega
              · have e1 : decide ((k : Int) < (n' : Int)) = false := by simp; omega
                have e1' : decide (k < n') = false := by simp; omega
                obtain rfl : n' = k := by omega
                have HEA : Hid (exAll p = true) := exAll_true (by rw [HnC.out]; exact HE.out)
                have HT : Hid (x = textL p) := by show _ = _; rw [HX.out]; unfold textL linesL; rw [HnC.out]
                have b16 := b1.trans (hb3.mono b1.size)
                have hsz := strB_size x
                by_cases h2 : 8192 < x.length
                · obtain ⟨z1, z2⟩ := printE_long hF.out HEA.out (HT.out ▸ h2)
                  have Z1 := Lib.hid z1
                  have Z2 := Lib.hid z2
                  clear z1 z2
                  have d2 : decide ((8192 : Int) < (x.length : Int)) = true := by simp; omega
                  have d2' : decide (8192 < x.length) = true := by simp; omega
                  go_wp2_with fail
                  go_ret2
                  exact ret_se rfl Z2.out Z1.out b16
                · obtain ⟨z1, z2⟩ := printE_ok hF.out HEA.out (HT.out ▸ h2)
                  have Z1 := Lib.hid z1
                  have Z2 := Lib.hid z2
                  clear z1 z2
                  have d2 : decide ((8192 : Int) < (x.length : Int)) = false := by simp; omega
                  have d2' : decide (8192 < x.length) = false := by simp; omega
                  go_wp2_with fail
                  go_ret2
                  exact ret_se rfl (Z2.out.trans HT.out.symm) Z1.out b16
  · have d1 : (formE p != 0) = true := by simp [h1]
    obtain ⟨z1, z2⟩ := printE_form h1
    have Z1 := Lib.hid z1
    have Z2 := Lib.hid z2
    clear z1 z2
    go_wp2_with fail
    go_ret2
    exact ret_se rfl Z2.out Z1.out b1
end Go.Proofs.YtmijalhilalaoaaDoor
