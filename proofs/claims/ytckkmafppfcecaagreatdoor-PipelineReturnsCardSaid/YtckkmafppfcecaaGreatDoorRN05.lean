/- Yd Ye. -/
import Derived.Test.YtckkmafppfcecaaGreatDoorRN04
set_option maxRecDepth 100000
set_option maxHeartbeats 4000000
namespace Go.Proofs.YtckkmafppfcecaaGreatDoor
open Go.RowKit Go.Proofs
set_option linter.unusedVariables false
set_option linter.unusedSimpArgs false
def encTy (t : Ty) : List Value := [.int .i64 t.1, .int .i64 t.2]
theorem encTy_one (x : Ty) : ∀ u ∈ encTy x, u.oneCell' = true := by intro u hu; simp [encTy] at hu; rcases hu with rfl | rfl <;> rfl
theorem infoTy : (Tryz.prog.info? 33).map (fun i => (i.zero, i.size, i.bytes)) = some (some (.agg #[.int .i64 0, .int .i64 0]), 2, 16) := by kernel_rfl
theorem uTys : Tryz.prog.underlying 56 = some (.slice 33) := Tryz.underlying56
def tysTo (l : List Stg) (t : Ty) (k : Nat) : List Ty := (List.range (k + 1)).map (tK l t)
theorem tysTo_next (l : List Stg) (t : Ty) (k : Nat) : tysTo l t (k + 1) = tysTo l t k ++ [tK l t (k + 1)] := by unfold tysTo; rw [List.range_succ, List.map_append]; rfl
def TysPost (w : World) (l : List Stg) (t : Ty) (e : Ending) (w' : World) : Prop :=
  (if (typE l t).1 = 0 then ∃ A c, e = .returned (.tuple #[.slice A (l.length + 1) c, .int .i64 0, .int .i64 0]) ∧ OwnS encTy 2 w' w.heap.size 33 A (l.length + 1) c (tysTo l t l.length)
   else e = .returned (.tuple #[.slice none 0 0, .int .i64 (typE l t).2, .int .i64 (typE l t).1])) ∧ Below w.heap.size w w'
theorem TysPost.bad {w w' : World} {l : List Stg} {t : Ty} {a b : Int} (h : typE l t = (a, b)) (ha : a ≠ 0) (hb : Below w.heap.size w w') : TysPost w l t (.returned (.tuple #[.slice none 0 0, .int .i64 b, .int .i64 a])) w' := by
  refine ⟨?_, hb⟩
  rw [h, if_neg ha]
theorem TysPost.good {w w' : World} {l : List Stg} {t : Ty} {A : Option Addr} {c : Nat} (h : (typE l t).1 = 0) (ho : OwnS encTy 2 w' w.heap.size 33 A (l.length + 1) c (tysTo l t l.length)) (hb : Below w.heap.size w w') :
    TysPost w l t (.returned (.tuple #[.slice A (l.length + 1) c, .int .i64 0, .int .i64 0])) w' := by
  refine ⟨?_, hb⟩
  rw [if_pos h]
  exact ⟨A, c, rfl, ho⟩
theorem errP_ne {l : List Stg} {t : Ty} {n k : Nat} (hl : l.length = n) (h8 : n ≤ 8) (hok : tyOk t = true) (hf : fstE (eK l t) n 0 = fstE (eK l t) (n - k) k) (hk : k < n) (he : eK l t k ≠ 0) : typE l t = (eK l t k, (k : Int)) := by
  unfold typE
  rw [if_neg (by omega), hok, if_neg (by decide), hl, hf, fstE_step hk, if_neg he]
theorem types_end {l : List Stg} {t : Ty} {n : Nat} (hl : l.length = n) (h8 : n ≤ 8) (hok : tyOk t = true) (hf : fstE (eK l t) n 0 = fstE (eK l t) (n - n) n) : typE l t = (0, 0) := by
  unfold typE
  rw [if_neg (by omega), hok, if_neg (by decide), hl, hf, fstE_end (Nat.le_refl _)]
theorem OwnS.setFar {α : Type} {enc : α → List Value} {sz B n c : Nat} {w : World} {e : TypeId} {A : Option Addr} {xs : List α} (h : OwnS enc sz w B e A n c xs) {p : Addr} (hp : p.block < B) (v : Value) : OwnS enc sz (w.setCell p v) B e A n c xs :=
  h.keep fun g o hg ho _ => (Below.heap_setCell w p v g (by omega)).trans ho
theorem types_any (A : Option Addr) (n c : Nat) (l : List Stg) (x y : Int) (w : World) (hx : Stgs w A n c l) (hn : n ≤ 1000000000000) : Calls Tryz.prog 34 #[.slice A n c, .agg #[.int .i64 x, .int .i64 y]] w (TysPost w l (x, y)) := by
  have Hl := Lib.hid hx.1
  have hb0 := balloc (Below.refl w.heap.size w) (.cells #[.int .i64 x, .int .i64 y] 33)
  have r0 := rowV.new w 33 #[.int .i64 x, .int .i64 y]
  by_cases h8 : 8 < n
  · have d8 : decide ((8 : Int) < (n : Int)) = true := by simp; omega
    have d8' : decide (8 < n) = true := by simp; omega
    have hT : Hid (typE l (x, y) = (6, -1)) := by show _ = _; unfold typE; rw [if_pos (by rw [Hl.out]; exact h8)]
    have Hb := Lib.hid hb0
    go_enter Tryz.func34, Tryz.ntmps34
    go_wp2_with fail
    refine bodyPost_ret (results_tmp3 rfl _ _ _) rfl ?_
    exact TysPost.bad hT.out (by decide) Hb.out
  have d8 : decide ((8 : Int) < (n : Int)) = false := by simp; omega
  have d8' : decide (8 < n) = false := by simp; omega
  obtain ⟨w0, hw0⟩ : ∃ w0, w0 = w.alloc (.cells #[.int .i64 x, .int .i64 y] 33) := ⟨_, rfl⟩
  rw [← hw0] at r0 hb0
  have HP := Lib.hid (proper_any x y w0)
  have HW0 := Lib.hid hw0; clear hw0
  cases hok : tyOk (x, y) with
  | false =>
    have hT : Hid (typE l (x, y) = (1, -1)) := by show _ = _; unfold typE; rw [if_neg (by rw [Hl.out]; exact h8), if_pos hok]
    rw [hok] at HP
    clear hok
    go_enter Tryz.func34, Tryz.ntmps34
    go_wp2_with fail
    rw [← HW0.out]
    refine HP.out.mono ?_
    rintro e w1 ⟨rfl, hb1⟩
    have Hb := Lib.hid (hb0.trans (hb1.mono hb0.size))
    clear hb0 hb1
    go_wp2_with fail
    refine bodyPost_ret (results_tmp3 rfl _ _ _) rfl ?_
    exact TysPost.bad hT.out (by decide) Hb.out
  | true =>
    rw [hok] at HP
    have Hok := Lib.hid hok
    clear hok
    go_enter Tryz.func34, Tryz.ntmps34
    go_wp2_with fail
    rw [← HW0.out]
    refine HP.out.mono ?_
    rintro e w1 ⟨rfl, hb1⟩
    have b1 := hb0.trans (hb1.mono hb0.size)
    have r1 := r0.below hb1 r0.lt
    have hlt1 := r1.lt
    obtain ⟨c1, c2⟩ := two_cellsV r1
    have hown : OwnS encTy 2 (w1.alloc (.cells #[.int .i64 x, .int .i64 y] 33)) (w.heap.size + 1) 33 (some ⟨w1.heap.size, 0, none⟩) 1 1 (tysTo l (x, y) 0) :=
      ⟨rfl, .inr ⟨w1.heap.size, 1, #[.int .i64 x, .int .i64 y], rfl, hlt1, rowV.new _ _ _, Nat.le_refl _, by decide, rfl, rfl⟩⟩
    have Hr1 := Lib.hid (r1.below (balloc (Below.refl _ _) (.cells #[.int .i64 x, .int .i64 y] 33)) r1.lt)
    have Hb1 := Lib.hid (balloc b1 (.cells #[.int .i64 x, .int .i64 y] 33))
    have Hown := Lib.hid hown
    clear r1 b1 hb1 hb0 r0 hown HP
    go_wp2_with fail
    have hst : Hid (fstE (eK l (x, y)) n 0 = fstE (eK l (x, y)) (n - 0) 0) := rfl
    go_loopw [7, 8, 9, 10, 11, 22] (fun o _ _ _ _ i wr => ∃ (k c3 : Nat) (A3 : Option Addr), k ≤ n ∧ i = .int .i64 (k : Int) ∧ o = .slice A3 (k + 1) c3 ∧ Hid (fstE (eK l (x, y)) n 0 = fstE (eK l (x, y)) (n - k) k) ∧
      Hid (OwnS encTy 2 wr (w.heap.size + 1) 33 A3 (k + 1) c3 (tysTo l (x, y) k)) ∧ Hid (rowV wr w.heap.size 33 #[.int .i64 (tK l (x, y) k).1, .int .i64 (tK l (x, y) k).2]) ∧ Hid (Below w.heap.size w wr)) (fun _ _ _ _ _ i _ => n - (intOf i).toNat)
    case atStart => exact ⟨0, 1, _, Nat.zero_le _, rfl, rfl, hst, Hown, Hr1, Hb1⟩
    case round =>
      obtain ⟨k, c3, A3, hk, rfl, rfl, HF, HO, HR, HB⟩ := hrel
      by_cases hlt : k < n
      · have d0 : decide ((k : Int) < (n : Int)) = true := by simp; omega
        have d0' : decide (k < n) = true := by simp; omega
        obtain ⟨sb, so, rfl, hsb, hs1, hs2⟩ := hx.cell hlt
        have y1 : wr.cell? ⟨sb, so + k * 2, none⟩ = some (.int .i64 (sG l k).1) := (HB.out.cell (p := ⟨sb, so + k * 2, none⟩) hsb).trans hs1
        have y2 : wr.cell? ⟨sb, so + k * 2 + 1, none⟩ = some (.int .i64 (sG l k).2) := (HB.out.cell (p := ⟨sb, so + k * 2 + 1, none⟩) hsb).trans hs2
        have hwf := (hx.wf k).1
        clear hs1 hs2
        obtain ⟨z1, z2⟩ := two_cellsV HR.out
        have hE : Hid (errP (sG l k) (tK l (x, y) k) = eK l (x, y) k) := rfl
        have hN : Hid (stepP (sG l k) (tK l (x, y) k) = tK l (x, y) (k + 1)) := rfl
        obtain ⟨s, hs⟩ : ∃ s, s = sG l k := ⟨_, rfl⟩
        obtain ⟨t, ht⟩ : ∃ t, t = tK l (x, y) k := ⟨_, rfl⟩
        rw [← hs] at y1 y2 hwf hE hN
        rw [← ht] at z1 z2 hE hN HR
        clear hs ht
        obtain ⟨a1, a2⟩ := s
        obtain ⟨t1, t2⟩ := t
        dsimp only at y1 y2 hwf z1 z2 HR
        have Ht := Lib.hid HR.out.lt
        have HS := Lib.hid (step_any a1 a2 t1 t2 (wr.alloc (.cells #[.int .i64 a1, .int .i64 a2] 67)) hwf)
        obtain ⟨er, her⟩ : ∃ er, er = errP (a1, a2) (t1, t2) := ⟨_, rfl⟩
        obtain ⟨nx, hnx⟩ : ∃ nx, nx = stepP (a1, a2) (t1, t2) := ⟨_, rfl⟩
        rw [← her, ← hnx] at HS
        rw [← her] at hE
        rw [← hnx] at hN
        clear her hnx
        obtain ⟨n1, n2⟩ := nx
        dsimp only at HS
        have lt0 := HR.out.lt
        by_cases he : er = 0
        · subst he
          go_wp2_with fail
          refine HS.out.mono ?_
          rintro e w2 ⟨rfl, hb2⟩
          have rA := (HR.out.below (balloc (Below.refl _ _) (.cells #[.int .i64 a1, .int .i64 a2] 67)) HR.out.lt)
          have r2 := rA.below hb2 rA.lt
          have bA := (balloc (Below.refl _ wr) (.cells #[.int .i64 a1, .int .i64 a2] 67))
          have b2 := bA.trans (hb2.mono bA.size)
          have lt2 := r2.lt
          obtain ⟨u1, u2⟩ := two_cellsV r2
          have z5 := r2.frozen 0
          have z6 := r2.frozen 1
          have o4 := ((((HO.out.below b2).setFar (p := ⟨w.heap.size, 0, none⟩) (Nat.lt_succ_self _) (.int .i64 n1)).setFar (p := ⟨w.heap.size, 1, none⟩) (Nat.lt_succ_self _) (.int .i64 n2)).below (balloc (Below.refl _ _) (.cells #[.int .i64 n1, .int .i64 n2] 33)))
          have r4 := ((r2.set 0 (.int .i64 n1)).set 1 (.int .i64 n2)).below (balloc (Below.refl _ _) (.cells #[.int .i64 n1, .int .i64 n2] 33)) ((r2.set 0 (.int .i64 n1)).set 1 (.int .i64 n2)).lt
          have b4 := balloc (((HB.out.trans (b2.mono HB.out.size)).setCell (p := ⟨w.heap.size, 0, none⟩) (Nat.le_refl _) (.int .i64 n1)).setCell (p := ⟨w.heap.size, 1, none⟩) (Nat.le_refl _) (.int .i64 n2)) (.cells #[.int .i64 n1, .int .i64 n2] 33)
          have HX := Lib.hid (And.intro o4 (And.intro r4 b4))
          have HBX := Lib.hid (show w.heap.size + 1 ≤ _ from r4.lt)
          have hml := Lib.hid (show k + 1 + 1 ≤ maxLen ∧ (k + 1 + 1) * 16 ≤ 140737488355328 by unfold maxLen; omega)
          have HSZ : Hid (w2.heap.size + 1 = (((w2.setCell ⟨w.heap.size, 0, none⟩ (.int .i64 n1)).setCell ⟨w.heap.size, 1, none⟩ (.int .i64 n2)).alloc (.cells #[.int .i64 n1, .int .i64 n2] 33)).heap.size) := by show _ = _; simp [World.setCell]
          have HFn := Lib.hid (HF.out.trans (fstE_step hlt))
          clear hb2 rA bA r2 b2 o4 r4 b4
          go_wp2_with (at_builtin; refine wpList_pushS (enc := encTy) rfl (.tmp 38) (.tmp 40) rfl uTys infoTy encTy_one rfl (fun _ => rfl) (by decide) rfl HX.out.1 HBX.out (n1, n2) _ rfl (congrArg (fun g => Value.slice (some ⟨g, 0, none⟩) 1 1) HSZ.out) hml.out.1 hml.out.2 ?_; intro A6 c6 w6 ho6 hb6 hg6)
          have HN2 := Lib.hid (And.intro ho6 (And.intro (HX.out.2.1.below hb6 (Nat.lt_succ_self _)) (HX.out.2.2.trans (hb6.mono (Nat.le_succ _)))))
          clear ho6 hb6 hg6
          go_roundw
          case rel =>
            refine ⟨k + 1, c6, A6, by omega, by go_num, rfl, ?_, ?_, ?_, Lib.hid HN2.out.2.2⟩
            · refine Lib.hid ?_
              rw [HFn.out, if_pos hE.out.symm]
            · refine Lib.hid ?_
              rw [tysTo_next, ← hN.out]
              exact HN2.out.1
            · refine Lib.hid ?_
              rw [← hN.out]
              exact HN2.out.2.1
          case measure => (simp [intOf]) <;> omega
        · have q0 : (er == 0) = false := by simpa using he
          have hT := Lib.hid (errP_ne Hl.out (by omega) Hok.out HF.out hlt (by rw [← hE.out]; exact he))
          rw [← hE.out] at hT
          clear he
          go_wp2_with fail
          refine HS.out.mono ?_
          rintro e w2 ⟨rfl, hb2⟩
          have hbl := Lib.hid (balloc ((balloc HB.out (.cells #[.int .i64 a1, .int .i64 a2] 67)).trans (hb2.mono (balloc HB.out (.cells #[.int .i64 a1, .int .i64 a2] 67)).size)) (.cells #[.int .i64 n1, .int .i64 n2] 33))
          clear hb2
          go_wp2_with fail
          go_ret3
          exact TysPost.bad hT.out (by simpa using q0) hbl.out
      · obtain rfl : k = n := by omega
        have d0 : decide ((k : Int) < (k : Int)) = false := by simp
        have hT := Lib.hid (types_end Hl.out (by omega) Hok.out HF.out)
        go_wp2_with fail
        go_ret3
        obtain rfl := Hl.out
        exact TysPost.good (by rw [hT.out]) (HO.out.mono (Nat.le_succ _)) HB.out
theorem boxesTT (w : World) (c d : Int) : ∃ w0, w0 = (w.alloc (.cells #[.int .i64 c, .int .i64 d] 33)).alloc (.cells #[.int .i64 0, .int .i64 0] 33) ∧ Below w.heap.size w w0 ∧ w0.heap.size = w.heap.size + 1 + 1 ∧ rowV w0 w.heap.size 33 #[.int .i64 c, .int .i64 d] ∧ rowV w0 (w.heap.size + 1) 33 #[.int .i64 0, .int .i64 0] := by
  have r1 := rowV.new w 33 #[.int .i64 c, .int .i64 d]
  have r2 := rowV.new (w.alloc (.cells #[.int .i64 c, .int .i64 d] 33)) 33 #[.int .i64 0, .int .i64 0]
  have k1 := balloc (Below.refl _ (w.alloc (.cells #[.int .i64 c, .int .i64 d] 33))) (.cells #[.int .i64 0, .int .i64 0] 33)
  have e1 : (w.alloc (.cells #[.int .i64 c, .int .i64 d] 33)).heap.size = w.heap.size + 1 := by simp
  rw [e1] at r2
  exact ⟨_, rfl, balloc (balloc (Below.refl _ _) _) _, by simp, r1.below k1 r1.lt, r2⟩
theorem tysTo_last (l : List Stg) (t : Ty) : (tysTo l t l.length).getD l.length (0, 0) = tK l t l.length := by
  unfold tysTo
  rw [List.getD_eq_getElem?_getD, List.getElem?_map, List.getElem?_range (by omega)]; rfl
theorem type_any (A : Option Addr) (n c : Nat) (l : List Stg) (x y : Int) (w : World) (hx : Stgs w A n c l) (hn : n ≤ 1000000000000) :
    Calls Tryz.prog 15 #[.slice A n c, .agg #[.int .i64 x, .int .i64 y]] w fun e w' => e = .returned (.tuple #[.agg #[.int .i64 (typeP l (x, y)).1, .int .i64 (typeP l (x, y)).2], .int .i64 (typE l (x, y)).1]) ∧ Below w.heap.size w w' := by
  obtain ⟨w0, hw0, g0, s0, r1, r2⟩ := boxesTT w x y
  have hl := hx.1
  have HT := Lib.hid (types_any A n c l x y w0 (hx.below g0) hn)
  have Hl := Lib.hid hl; clear hl
  have Hw := Lib.hid hw0; clear hw0
  have g1 := Lib.hid g0; clear g0
  have hlt : w.heap.size + 1 < w0.heap.size := by omega
  have R2 := Lib.hid r2
  clear r1 r2
  have hP : Hid (typeP l (x, y) = if (typE l (x, y)).1 = 0 then tK l (x, y) l.length else (0, 0)) := rfl
  obtain ⟨er, her⟩ : ∃ er, er = typE l (x, y) := ⟨_, rfl⟩
  rw [← her] at hP ⊢
  have Her := Lib.hid her; clear her
  obtain ⟨er, ix⟩ := er
  dsimp only at hP ⊢
  obtain ⟨T, hT⟩ : ∃ T, T = typeP l (x, y) := ⟨_, rfl⟩
  rw [← hT] at hP ⊢
  clear hT
  obtain ⟨T1, T2⟩ := T
  dsimp only at hP ⊢
  go_enter Tryz.func15, Tryz.ntmps15
  go_wp2_with fail
  rw [← Hw.out]
  refine HT.out.mono ?_
  rintro e w1 ⟨hp, hb1⟩
  rw [← Her.out] at hp
  dsimp only at hp
  have r3 := R2.out.below hb1 R2.out.lt
  have z5 := r3.frozen 0
  have z6 := r3.frozen 1
  obtain ⟨u1, u2⟩ := two_cellsV r3
  have HR3 := Lib.hid r3
  have hbl := Lib.hid (g1.out.trans (hb1.mono g1.out.size))
  by_cases he : er = 0
  · rw [if_pos he] at hp hP
    subst he
    obtain ⟨A2, c2, rfl, ho⟩ := hp
    obtain rfl := Hl.out
    obtain ⟨g, rfl, hg1, hg2, hgc⟩ := ho.get (fun _ => rfl) (by decide) (0, 0) (Nat.succ_pos _)
    have y1 := hgc l.length 0 _ (Nat.lt_succ_self _) rfl
    have y2 := hgc l.length 1 _ (Nat.lt_succ_self _) rfl
    rw [tysTo_last] at y1 y2
    rw [← hP.out] at y1 y2
    have hcap := ho.cap
    have e0 : l.length * 2 + 0 = l.length * 2 := rfl
    rw [e0] at y1
    have d0 : decide ((l.length : Int) < ((l.length + 1 : Nat) : Int)) = true := by simp; omega
    have d0' : decide (l.length < l.length + 1) = true := by simp
    clear r3 hgc ho hb1 HT hP e0
    dsimp only at y1 y2
    go_wp2_with fail
    exact ret_cell rfl rfl rfl ((HR3.out.set 0 _).set 1 _) Tryz.underlying33 rfl (by kernel_rfl) ⟨rfl, ((hbl.out.setCell (p := ⟨w.heap.size + 1, 0, none⟩) (Nat.le_succ _) _).setCell (p := ⟨w.heap.size + 1, 1, none⟩) (Nat.le_succ _) _)⟩
  · rw [if_neg he] at hp hP
    subst hp
    have q0 : (er == 0) = false := by simpa using he
    have e3 := hP.out
    simp only [Prod.mk.injEq] at e3
    obtain ⟨rfl, rfl⟩ := e3
    clear r3 hb1 HT hP he
    go_wp2_with fail
    exact ret_cell rfl rfl rfl ((HR3.out.set 0 _).set 1 _) Tryz.underlying33 rfl (by kernel_rfl) ⟨rfl, ((hbl.out.setCell (p := ⟨w.heap.size + 1, 0, none⟩) (Nat.le_succ _) _).setCell (p := ⟨w.heap.size + 1, 1, none⟩) (Nat.le_succ _) _)⟩
theorem check_any (A : Option Addr) (n c : Nat) (l : List Stg) (w : World) (hx : Stgs w A n c l) (hn : n ≤ 1000000000000) :
    Calls Tryz.prog 17 #[.slice A n c] w fun e w' => e = .returned (.int .i64 (typE l (0, 0)).1) ∧ Below w.heap.size w w' := by
  have H := Lib.hid (type_any A n c l 0 0 w hx hn)
  obtain ⟨T, hT⟩ : ∃ T, T = typeP l (0, 0) := ⟨_, rfl⟩
  obtain ⟨er, her⟩ : ∃ er, er = (typE l (0, 0)).1 := ⟨_, rfl⟩
  rw [← hT, ← her] at H
  rw [← her]
  clear hT her
  go_enter Tryz.func17, Tryz.ntmps17
  go_wp2_with fail
  refine H.out.mono ?_
  rintro e w1 ⟨rfl, hb1⟩
  go_wp2_with fail
  go_ret
  exact ⟨rfl, balloc hb1 _⟩
end Go.Proofs.YtckkmafppfcecaaGreatDoor
