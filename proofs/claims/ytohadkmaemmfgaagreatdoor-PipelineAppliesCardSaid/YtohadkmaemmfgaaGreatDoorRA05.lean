/- Yd Ye Yr Ys Yt Yu. -/
import Derived.Test.YtohadkmaemmfgaaGreatDoorRA04
import Derived.BigRegion
set_option maxRecDepth 100000
set_option maxHeartbeats 4000000
namespace Go.Proofs.YtohadkmaemmfgaaGreatDoor
open Go.RowKit Go.Proofs
set_option linter.unusedVariables false
set_option linter.unusedSimpArgs false
def encTy (t : Ty) : List Value := [.int .i64 t.1, .int .i64 t.2]
theorem encTy_one (x : Ty) : ∀ u ∈ encTy x, u.oneCell' = true := by intro u hu; simp [encTy] at hu; rcases hu with rfl | rfl <;> rfl
theorem infoTy : (Tryz.prog.info? 35).map (fun i => (i.zero, i.size, i.bytes)) = some (some (.agg #[.int .i64 0, .int .i64 0]), 2, 16) := by kernel_rfl
theorem uTys : Tryz.prog.underlying 39 = some (.slice 35) := Tryz.underlying39
def tysTo (l : List Stg) (t : Ty) (k : Nat) : List Ty := (List.range (k + 1)).map (tK l t)
theorem tysTo_next (l : List Stg) (t : Ty) (k : Nat) : tysTo l t (k + 1) = tysTo l t k ++ [tK l t (k + 1)] := by unfold tysTo; rw [List.range_succ, List.map_append]; rfl
def TysPost (w : World) (l : List Stg) (t : Ty) (e : Ending) (w' : World) : Prop :=
  (if (typE l t).1 = 0 then ∃ A c, e = .returned (.tuple #[.slice A (l.length + 1) c, .int .i64 0, .int .i64 0]) ∧ OwnS encTy 2 w' w.heap.size 35 A (l.length + 1) c (tysTo l t l.length)
   else e = .returned (.tuple #[.slice none 0 0, .int .i64 (typE l t).2, .int .i64 (typE l t).1])) ∧ Below w.heap.size w w'
theorem TysPost.bad {w w' : World} {l : List Stg} {t : Ty} {a b : Int} (h : typE l t = (a, b)) (ha : a ≠ 0) (hb : Below w.heap.size w w') : TysPost w l t (.returned (.tuple #[.slice none 0 0, .int .i64 b, .int .i64 a])) w' := by
  refine ⟨?_, hb⟩
  rw [h, if_neg ha]
theorem TysPost.good {w w' : World} {l : List Stg} {t : Ty} {A : Option Addr} {c : Nat} (h : (typE l t).1 = 0) (ho : OwnS encTy 2 w' w.heap.size 35 A (l.length + 1) c (tysTo l t l.length)) (hb : Below w.heap.size w w') :
    TysPost w l t (.returned (.tuple #[.slice A (l.length + 1) c, .int .i64 0, .int .i64 0])) w' := by
  refine ⟨?_, hb⟩
  rw [if_pos h]
  exact ⟨A, c, rfl, ho⟩
theorem errP_ne {l : List Stg} {t : Ty} {n k : Nat} (hl : l.length = n) (h8 : n ≤ 8) (hok : tyOk t = true) (hf : fstE (eK l t) n 0 = fstE (eK l t) (n - k) k) (hk : k < n) (he : eK l t k ≠ 0) : typE l t = (eK l t k, (k : Int)) := by
  unfold typE
  rw [if_neg (by omega), hok, if_neg (by decide), hl, hf, fstE_step hk, if_neg he]
theorem types_end {l : List Stg} {t : Ty} {n : Nat} (hl : l.length = n) (h8 : n ≤ 8) (hok : tyOk t = true) (hf : fstE (eK l t) n 0 = fstE (eK l t) (n - n) n) : typE l t = (0, 0) := by
  unfold typE
  rw [if_neg (by omega), hok, if_neg (by decide), hl, hf, fstE_end (Nat.le_refl _)]
theorem OwnS.setFar {α : Type} {enc : α → List Value} {sz B n c : Nat} {w : World} {e : TypeId} {A : Option Addr} {xs : List α} (h : OwnS enc sz w B e A n c xs) {p : Addr} (hp : p.block < B) (v : Value) : OwnS enc sz (w.setCell p v) B e A n c xs :=
  h.keep fun g o hg ho _ => (Below.heap_setCell w p v g (by omega)).trans ho
theorem types_any (A : Option Addr) (n c : Nat) (l : List Stg) (x y : Int) (w : World) (hx : Stgs w A n c l) (hn : n ≤ 1000000000000) : Calls Tryz.prog 26 #[.slice A n c, .agg #[.int .i64 x, .int .i64 y]] w (TysPost w l (x, y)) := by
  have Hl := Lib.hid hx.1
  have hb0 := balloc (Below.refl w.heap.size w) (.cells #[.int .i64 x, .int .i64 y] 35)
  have r0 := rowV.new w 35 #[.int .i64 x, .int .i64 y]
  by_cases h8 : 8 < n
  · have d8 : decide ((8 : Int) < (n : Int)) = true := by simp; omega
    have d8' : decide (8 < n) = true := by simp; omega
    have hT : Hid (typE l (x, y) = (6, -1)) := by show _ = _; unfold typE; rw [if_pos (by rw [Hl.out]; exact h8)]
    have Hb := Lib.hid hb0
    go_enter Tryz.func26, Tryz.ntmps26
    go_wp2_with fail
    refine bodyPost_ret (results_tmp3 rfl _ _ _) rfl ?_
    exact TysPost.bad hT.out (by decide) Hb.out
  have d8 : decide ((8 : Int) < (n : Int)) = false := by simp; omega
  have d8' : decide (8 < n) = false := by simp; omega
  obtain ⟨w0, hw0⟩ : ∃ w0, w0 = w.alloc (.cells #[.int .i64 x, .int .i64 y] 35) := ⟨_, rfl⟩
  rw [← hw0] at r0 hb0
  have HP := Lib.hid (proper_any x y w0)
  have HW0 := Lib.hid hw0; clear hw0
  cases hok : tyOk (x, y) with
  | false =>
    have hT : Hid (typE l (x, y) = (1, -1)) := by show _ = _; unfold typE; rw [if_neg (by rw [Hl.out]; exact h8), if_pos hok]
    rw [hok] at HP
    clear hok
    go_enter Tryz.func26, Tryz.ntmps26
    go_wp2_with fail
    rw [← HW0.out]
    refine HP.out.mono ?_
    rintro e w1 ⟨rfl, hb1⟩
    have Hb := Lib.hid (hb0.trans (hb1.mono hb0.size))
    clear hb0 hb1
    go_wp2_with fail
    refine bodyPost_ret (results_tmp3 rfl _ _ _) rfl ?_
    exact TysPost.bad hT.out (by decide) Hb.out
  | true =>
    rw [hok] at HP
    have Hok := Lib.hid hok
    clear hok
    go_enter Tryz.func26, Tryz.ntmps26
    go_wp2_with fail
    rw [← HW0.out]
    refine HP.out.mono ?_
    rintro e w1 ⟨rfl, hb1⟩
    have b1 := hb0.trans (hb1.mono hb0.size)
    have r1 := r0.below hb1 r0.lt
    have hlt1 := r1.lt
    obtain ⟨c1, c2⟩ := two_cellsV r1
    have hown : OwnS encTy 2 (w1.alloc (.cells #[.int .i64 x, .int .i64 y] 35)) (w.heap.size + 1) 35 (some ⟨w1.heap.size, 0, none⟩) 1 1 (tysTo l (x, y) 0) :=
      ⟨rfl, .inr ⟨w1.heap.size, 1, #[.int .i64 x, .int .i64 y], rfl, hlt1, rowV.new _ _ _, Nat.le_refl _, by decide, rfl, rfl⟩⟩
    have Hr1 := Lib.hid (r1.below (balloc (Below.refl _ _) (.cells #[.int .i64 x, .int .i64 y] 35)) r1.lt)
    have Hb1 := Lib.hid (balloc b1 (.cells #[.int .i64 x, .int .i64 y] 35))
    have Hown := Lib.hid hown
    clear r1 b1 hb1 hb0 r0 hown HP
    go_wp2_with fail
    have hst : Hid (fstE (eK l (x, y)) n 0 = fstE (eK l (x, y)) (n - 0) 0) := rfl
    go_loopw [7, 8, 9, 10, 11, 22] (fun o _ _ _ _ i wr => ∃ (k c3 : Nat) (A3 : Option Addr), k ≤ n ∧ i = .int .i64 (k : Int) ∧ o = .slice A3 (k + 1) c3 ∧ Hid (fstE (eK l (x, y)) n 0 = fstE (eK l (x, y)) (n - k) k) ∧
      Hid (OwnS encTy 2 wr (w.heap.size + 1) 35 A3 (k + 1) c3 (tysTo l (x, y) k)) ∧ Hid (rowV wr w.heap.size 35 #[.int .i64 (tK l (x, y) k).1, .int .i64 (tK l (x, y) k).2]) ∧ Hid (Below w.heap.size w wr)) (fun _ _ _ _ _ i _ => n - (intOf i).toNat)
    case atStart => exact ⟨0, 1, _, Nat.zero_le _, rfl, rfl, hst, Hown, Hr1, Hb1⟩
    case round =>
      obtain ⟨k, c3, A3, hk, rfl, rfl, HF, HO, HR, HB⟩ := hrel
      by_cases hlt : k < n
      · have d0 : decide ((k : Int) < (n : Int)) = true := by simp; omega
        have d0' : decide (k < n) = true := by simp; omega
        obtain ⟨sb, so, rfl, hsb, hs1, hs2⟩ := hx.cell hlt
        have y1 : wr.cell? ⟨sb, so + k * 2, none⟩ = some (.int .i64 (sG l k).1) := (HB.out.cell (p := ⟨sb, so + k * 2, none⟩) hsb).trans hs1
        have y2 : wr.cell? ⟨sb, so + k * 2 + 1, none⟩ = some (.int .i64 (sG l k).2) := (HB.out.cell (p := ⟨sb, so + k * 2 + 1, none⟩) hsb).trans hs2
        have hwf := (hx.wf k).1
        clear hs1 hs2
        obtain ⟨z1, z2⟩ := two_cellsV HR.out
        have hE : Hid (errP (sG l k) (tK l (x, y) k) = eK l (x, y) k) := rfl
        have hN : Hid (stepP (sG l k) (tK l (x, y) k) = tK l (x, y) (k + 1)) := rfl
        obtain ⟨s, hs⟩ : ∃ s, s = sG l k := ⟨_, rfl⟩
        obtain ⟨t, ht⟩ : ∃ t, t = tK l (x, y) k := ⟨_, rfl⟩
        rw [← hs] at y1 y2 hwf hE hN
        rw [← ht] at z1 z2 hE hN HR
        clear hs ht
        obtain ⟨a1, a2⟩ := s
        obtain ⟨t1, t2⟩ := t
        dsimp only at y1 y2 hwf z1 z2 HR
        have Ht := Lib.hid HR.out.lt
        have HS := Lib.hid (step_any a1 a2 t1 t2 (wr.alloc (.cells #[.int .i64 a1, .int .i64 a2] 50)) hwf)
        obtain ⟨er, her⟩ : ∃ er, er = errP (a1, a2) (t1, t2) := ⟨_, rfl⟩
        obtain ⟨nx, hnx⟩ : ∃ nx, nx = stepP (a1, a2) (t1, t2) := ⟨_, rfl⟩
        rw [← her, ← hnx] at HS
        rw [← her] at hE
        rw [← hnx] at hN
        clear her hnx
        obtain ⟨n1, n2⟩ := nx
        dsimp only at HS
        have lt0 := HR.out.lt
        by_cases he : er = 0
        · subst he
          go_wp2_with fail
          refine HS.out.mono ?_
          rintro e w2 ⟨rfl, hb2⟩
          have rA := (HR.out.below (balloc (Below.refl _ _) (.cells #[.int .i64 a1, .int .i64 a2] 50)) HR.out.lt)
          have r2 := rA.below hb2 rA.lt
          have bA := (balloc (Below.refl _ wr) (.cells #[.int .i64 a1, .int .i64 a2] 50))
          have b2 := bA.trans (hb2.mono bA.size)
          have lt2 := r2.lt
          obtain ⟨u1, u2⟩ := two_cellsV r2
          have z5 := r2.frozen 0
          have z6 := r2.frozen 1
          have o4 := ((((HO.out.below b2).setFar (p := ⟨w.heap.size, 0, none⟩) (Nat.lt_succ_self _) (.int .i64 n1)).setFar (p := ⟨w.heap.size, 1, none⟩) (Nat.lt_succ_self _) (.int .i64 n2)).below (balloc (Below.refl _ _) (.cells #[.int .i64 n1, .int .i64 n2] 35)))
          have r4 := ((r2.set 0 (.int .i64 n1)).set 1 (.int .i64 n2)).below (balloc (Below.refl _ _) (.cells #[.int .i64 n1, .int .i64 n2] 35)) ((r2.set 0 (.int .i64 n1)).set 1 (.int .i64 n2)).lt
          have b4 := balloc (((HB.out.trans (b2.mono HB.out.size)).setCell (p := ⟨w.heap.size, 0, none⟩) (Nat.le_refl _) (.int .i64 n1)).setCell (p := ⟨w.heap.size, 1, none⟩) (Nat.le_refl _) (.int .i64 n2)) (.cells #[.int .i64 n1, .int .i64 n2] 35)
          have HX := Lib.hid (And.intro o4 (And.intro r4 b4))
          have HBX := Lib.hid (show w.heap.size + 1 ≤ _ from r4.lt)
          have hml := Lib.hid (show k + 1 + 1 ≤ maxLen ∧ (k + 1 + 1) * 16 ≤ 140737488355328 by unfold maxLen; omega)
          have HSZ : Hid (w2.heap.size + 1 = (((w2.setCell ⟨w.heap.size, 0, none⟩ (.int .i64 n1)).setCell ⟨w.heap.size, 1, none⟩ (.int .i64 n2)).alloc (.cells #[.int .i64 n1, .int .i64 n2] 35)).heap.size) := by show _ = _; simp [World.setCell]
          have HFn := Lib.hid (HF.out.trans (fstE_step hlt))
          clear hb2 rA bA r2 b2 o4 r4 b4
          go_wp2_with (at_builtin; refine wpList_pushS (enc := encTy) rfl (.tmp 38) (.tmp 40) rfl uTys infoTy encTy_one rfl (fun _ => rfl) (by decide) rfl HX.out.1 HBX.out (n1, n2) _ rfl (congrArg (fun g => Value.slice (some ⟨g, 0, none⟩) 1 1) HSZ.out) hml.out.1 hml.out.2 ?_; intro A6 c6 w6 ho6 hb6 hg6)
          have HN2 := Lib.hid (And.intro ho6 (And.intro (HX.out.2.1.below hb6 (Nat.lt_succ_self _)) (HX.out.2.2.trans (hb6.mono (Nat.le_succ _)))))
          clear ho6 hb6 hg6
          go_roundw
          case rel =>
            refine ⟨k + 1, c6, A6, by omega, by go_num, rfl, ?_, ?_, ?_, Lib.hid HN2.out.2.2⟩
            · refine Lib.hid ?_
              rw [HFn.out, if_pos hE.out.symm]
            · refine Lib.hid ?_
              rw [tysTo_next, ← hN.out]
              exact HN2.out.1
            · refine Lib.hid ?_
              rw [← hN.out]
              exact HN2.out.2.1
          case measure => (simp [intOf]) <;> omega
        · have q0 : (er == 0) = false := by simpa using he
          have hT := Lib.hid (errP_ne Hl.out (by omega) Hok.out HF.out hlt (by rw [← hE.out]; exact he))
          rw [← hE.out] at hT
          clear he
          go_wp2_with fail
          refine HS.out.mono ?_
          rintro e w2 ⟨rfl, hb2⟩
          have hbl := Lib.hid (balloc ((balloc HB.out (.cells #[.int .i64 a1, .int .i64 a2] 50)).trans (hb2.mono (balloc HB.out (.cells #[.int .i64 a1, .int .i64 a2] 50)).size)) (.cells #[.int .i64 n1, .int .i64 n2] 35))
          clear hb2
          go_wp2_with fail
          go_ret3
          exact TysPost.bad hT.out (by simpa using q0) hbl.out
      · obtain rfl : k = n := by omega
        have d0 : decide ((k : Int) < (k : Int)) = false := by simp
        have hT := Lib.hid (types_end Hl.out (by omega) Hok.out HF.out)
        go_wp2_with fail
        go_ret3
        obtain rfl := Hl.out
        exact TysPost.good (by rw [hT.out]) (HO.out.mono (Nat.le_succ _)) HB.out
theorem boxesTT (w : World) (c d : Int) : ∃ w0, w0 = (w.alloc (.cells #[.int .i64 c, .int .i64 d] 35)).alloc (.cells #[.int .i64 0, .int .i64 0] 35) ∧ Below w.heap.size w w0 ∧ w0.heap.size = w.heap.size + 1 + 1 ∧ rowV w0 w.heap.size 35 #[.int .i64 c, .int .i64 d] ∧ rowV w0 (w.heap.size + 1) 35 #[.int .i64 0, .int .i64 0] := by
  have r1 := rowV.new w 35 #[.int .i64 c, .int .i64 d]
  have r2 := rowV.new (w.alloc (.cells #[.int .i64 c, .int .i64 d] 35)) 35 #[.int .i64 0, .int .i64 0]
  have k1 := balloc (Below.refl _ (w.alloc (.cells #[.int .i64 c, .int .i64 d] 35))) (.cells #[.int .i64 0, .int .i64 0] 35)
  have e1 : (w.alloc (.cells #[.int .i64 c, .int .i64 d] 35)).heap.size = w.heap.size + 1 := by simp
  rw [e1] at r2
  exact ⟨_, rfl, balloc (balloc (Below.refl _ _) _) _, by simp, r1.below k1 r1.lt, r2⟩
theorem tysTo_last (l : List Stg) (t : Ty) : (tysTo l t l.length).getD l.length (0, 0) = tK l t l.length := by
  unfold tysTo
  rw [List.getD_eq_getElem?_getD, List.getElem?_map, List.getElem?_range (by omega)]; rfl
theorem type_any (A : Option Addr) (n c : Nat) (l : List Stg) (x y : Int) (w : World) (hx : Stgs w A n c l) (hn : n ≤ 1000000000000) :
    Calls Tryz.prog 13 #[.slice A n c, .agg #[.int .i64 x, .int .i64 y]] w fun e w' => e = .returned (.tuple #[.agg #[.int .i64 (typeP l (x, y)).1, .int .i64 (typeP l (x, y)).2], .int .i64 (typE l (x, y)).1]) ∧ Below w.heap.size w w' := by
  obtain ⟨w0, hw0, g0, s0, r1, r2⟩ := boxesTT w x y
  have hl := hx.1
  have HT := Lib.hid (types_any A n c l x y w0 (hx.below g0) hn)
  have Hl := Lib.hid hl; clear hl
  have Hw := Lib.hid hw0; clear hw0
  have g1 := Lib.hid g0; clear g0
  have hlt : w.heap.size + 1 < w0.heap.size := by omega
  have R2 := Lib.hid r2
  clear r1 r2
  have hP : Hid (typeP l (x, y) = if (typE l (x, y)).1 = 0 then tK l (x, y) l.length else (0, 0)) := rfl
  obtain ⟨er, her⟩ : ∃ er, er = typE l (x, y) := ⟨_, rfl⟩
  rw [← her] at hP ⊢
  have Her := Lib.hid her; clear her
  obtain ⟨er, ix⟩ := er
  dsimp only at hP ⊢
  obtain ⟨T, hT⟩ : ∃ T, T = typeP l (x, y) := ⟨_, rfl⟩
  rw [← hT] at hP ⊢
  clear hT
  obtain ⟨T1, T2⟩ := T
  dsimp only at hP ⊢
  go_enter Tryz.func13, Tryz.ntmps13
  go_wp2_with fail
  rw [← Hw.out]
  refine HT.out.mono ?_
  rintro e w1 ⟨hp, hb1⟩
  rw [← Her.out] at hp
  dsimp only at hp
  have r3 := R2.out.below hb1 R2.out.lt
  have z5 := r3.frozen 0
  have z6 := r3.frozen 1
  obtain ⟨u1, u2⟩ := two_cellsV r3
  have HR3 := Lib.hid r3
  have hbl := Lib.hid (g1.out.trans (hb1.mono g1.out.size))
  by_cases he : er = 0
  · rw [if_pos he] at hp hP
    subst he
    obtain ⟨A2, c2, rfl, ho⟩ := hp
    obtain rfl := Hl.out
    obtain ⟨g, rfl, hg1, hg2, hgc⟩ := ho.get (fun _ => rfl) (by decide) (0, 0) (Nat.succ_pos _)
    have y1 := hgc l.length 0 _ (Nat.lt_succ_self _) rfl
    have y2 := hgc l.length 1 _ (Nat.lt_succ_self _) rfl
    rw [tysTo_last] at y1 y2
    rw [← hP.out] at y1 y2
    have hcap := ho.cap
    have e0 : l.length * 2 + 0 = l.length * 2 := rfl
    rw [e0] at y1
    have d0 : decide ((l.length : Int) < ((l.length + 1 : Nat) : Int)) = true := by simp; omega
    have d0' : decide (l.length < l.length + 1) = true := by simp
    clear r3 hgc ho hb1 HT hP e0
    dsimp only at y1 y2
    go_wp2_with fail
    exact ret_cell rfl rfl rfl ((HR3.out.set 0 _).set 1 _) Tryz.underlying35 rfl (by kernel_rfl) ⟨rfl, ((hbl.out.setCell (p := ⟨w.heap.size + 1, 0, none⟩) (Nat.le_succ _) _).setCell (p := ⟨w.heap.size + 1, 1, none⟩) (Nat.le_succ _) _)⟩
  · rw [if_neg he] at hp hP
    subst hp
    have q0 : (er == 0) = false := by simpa using he
    have e3 := hP.out
    simp only [Prod.mk.injEq] at e3
    obtain ⟨rfl, rfl⟩ := e3
    clear r3 hb1 HT hP he
    go_wp2_with fail
    exact ret_cell rfl rfl rfl ((HR3.out.set 0 _).set 1 _) Tryz.underlying35 rfl (by kernel_rfl) ⟨rfl, ((hbl.out.setCell (p := ⟨w.heap.size + 1, 0, none⟩) (Nat.le_succ _) _).setCell (p := ⟨w.heap.size + 1, 1, none⟩) (Nat.le_succ _) _)⟩
theorem refName_any (k : Int) (w : World) : Calls Tryz.prog 98 #[.int .i64 k] w fun e w' => e = .returned (.string (strB (nameP k))) ∧ w' = w := by
  by_cases h : 0 ≤ k ∧ k < 10
  · obtain ⟨m, rfl⟩ : ∃ m : Nat, k = (m : Int) := ⟨k.toNat, by omega⟩
    have hm : m < 10 := by omega
    clear h
    match m, hm with
    | 0, _ =>
      go_enter Tryz.func98, Tryz.ntmps98
      go_wp2_with fail
      go_ret
      exact ⟨rfl, rfl⟩
    | 1, _ =>
      go_enter Tryz.func98, Tryz.ntmps98
      go_wp2_with fail
      go_ret
      exact ⟨rfl, rfl⟩
    | 2, _ =>
      go_enter Tryz.func98, Tryz.ntmps98
      go_wp2_with fail
      go_ret
      exact ⟨rfl, rfl⟩
    | 3, _ =>
      go_enter Tryz.func98, Tryz.ntmps98
      go_wp2_with fail
      go_ret
      exact ⟨rfl, rfl⟩
    | 4, _ =>
      go_enter Tryz.func98, Tryz.ntmps98
      go_wp2_with fail
      go_ret
      exact ⟨rfl, rfl⟩
    | 5, _ =>
      go_enter Tryz.func98, Tryz.ntmps98
      go_wp2_with fail
      go_ret
      exact ⟨rfl, rfl⟩
    | 6, _ =>
      go_enter Tryz.func98, Tryz.ntmps98
      go_wp2_with fail
      go_ret
      exact ⟨rfl, rfl⟩
    | 7, _ =>
      go_enter Tryz.func98, Tryz.ntmps98
      go_wp2_with fail
      go_ret
      exact ⟨rfl, rfl⟩
    | 8, _ =>
      go_enter Tryz.func98, Tryz.ntmps98
      go_wp2_with fail
      go_ret
      exact ⟨rfl, rfl⟩
    | 9, _ =>
      go_enter Tryz.func98, Tryz.ntmps98
      go_wp2_with fail
      go_ret
      exact ⟨rfl, rfl⟩
  · have hN : Hid (nameP k = []) := by
      show _ = _
      unfold nameP
      rw [if_neg (by omega), if_neg (by omega), if_neg (by omega), if_neg (by omega), if_neg (by omega), if_neg (by omega), if_neg (by omega), if_neg (by omega), if_neg (by omega), if_neg (by omega)]
    have q0 : (k == 0) = false := by simp; omega
    have q1 : (k == 1) = false := by simp; omega
    have q2 : (k == 2) = false := by simp; omega
    have q3 : (k == 3) = false := by simp; omega
    have q4 : (k == 4) = false := by simp; omega
    have q5 : (k == 5) = false := by simp; omega
    have q6 : (k == 6) = false := by simp; omega
    have q7 : (k == 7) = false := by simp; omega
    have q8 : (k == 8) = false := by simp; omega
    have q9 : (k == 9) = false := by simp; omega
    clear h
    rw [hN.out]
    go_enter Tryz.func98, Tryz.ntmps98
    go_wp2
    go_ret
    exact ⟨rfl, rfl⟩
theorem refFrom_any (k : Int) (w : World) : Calls Tryz.prog 99 #[.int .i64 k] w fun e w' => e = .returned (.int .i64 (frK k)) ∧ w' = w := by
  by_cases h1 : k = 1
  · subst h1
    go_enter Tryz.func99, Tryz.ntmps99
    go_wp2
    go_ret
    exact ⟨rfl, rfl⟩
  by_cases h2 : k = 2
  · subst h2
    go_enter Tryz.func99, Tryz.ntmps99
    go_wp2
    go_ret
    exact ⟨rfl, rfl⟩
  by_cases h3 : k = 3
  · subst h3
    go_enter Tryz.func99, Tryz.ntmps99
    go_wp2
    go_ret
    exact ⟨rfl, rfl⟩
  by_cases h8 : k = 8
  · subst h8
    go_enter Tryz.func99, Tryz.ntmps99
    go_wp2
    go_ret
    exact ⟨rfl, rfl⟩
  by_cases h9 : k = 9
  · subst h9
    go_enter Tryz.func99, Tryz.ntmps99
    go_wp2
    go_ret
    exact ⟨rfl, rfl⟩
  have hF : Hid (frK k = 0) := by show _ = _; unfold frK; rw [if_neg (by omega), if_neg (by omega), if_neg (by omega)]
  have q1 : (k == 1) = false := by simpa using h1
  have q2 : (k == 2) = false := by simpa using h2
  have q3 : (k == 3) = false := by simpa using h3
  have q8 : (k == 8) = false := by simpa using h8
  have q9 : (k == 9) = false := by simpa using h9
  clear h1 h2 h3 h8 h9
  rw [hF.out]
  go_enter Tryz.func99, Tryz.ntmps99
  go_wp2
  go_ret
  exact ⟨rfl, rfl⟩
theorem ret_one {P : Program} {fn : Func} {p : Tmp} {ty t : TypeId} {R : Ending → World → Prop} {tmps : Array Value} {W : World} {g : Nat} {cs : Array Value} {d : TypeDesc} (h : fn.results = #[.cell p ty])
    (hp : tmps.getD p undef = .pointer (some ⟨g, 0, none⟩)) (hr : rowV W g t cs) (hu : P.underlying ty = some d) (hd : (match d with | .struct _ | .array _ _ => true | _ => false) = true) (hi : (P.info? ty).map (·.size) = some cs.size)
    (hR : R (.returned (.agg cs)) W) : bodyPost P fn R .ret { tmps := tmps, defers := [] } W :=
  bodyPost_ret (v := .agg cs) (results_cell_row h tmps W g t cs (0, 0) d hp hr hu hd hi) rfl hR
theorem row3 (w : World) (A B : Obj) (t : TypeId) (cs : Array Value) : rowV (((w.alloc A).alloc B).alloc (.cells cs t)) (w.heap.size + 1 + 1) t cs := by
  have := rowV.new ((w.alloc A).alloc B) t cs
  simpa using this
theorem refTo_any (k a x y : Int) (w : World) : Calls Tryz.prog 100 #[.agg #[.int .i64 k, .int .i64 a], .agg #[.int .i64 x, .int .i64 y]] w fun e w' => e = .returned (.agg #[.int .i64 (toP (k, a) (x, y)).1, .int .i64 (toP (k, a) (x, y)).2]) ∧ Below w.heap.size w w' := by
  obtain ⟨w0, hw0, g0, s0, r1, r2, r3⟩ := boxesST w k a x y
  have hlt : w.heap.size + 1 + 1 < w0.heap.size := by omega
  obtain ⟨c1, c2⟩ := two_cellsV r1
  obtain ⟨c3, c4⟩ := two_cellsV r2
  obtain ⟨c5, c6⟩ := two_cellsV r3
  have z5 := r3.frozen 0
  have z6 := r3.frozen 1
  have Hr := Lib.hid r3
  have Hg := Lib.hid g0
  have Hw := Lib.hid hw0
  clear r1 r2 r3 g0 hw0 s0
  by_cases h0 : k = 0
  · have hT : Hid (toP (k, a) (x, y) = (1, a)) := by show _ = _; rw [h0]; rfl
    have q0 : (k == 0) = true := by simpa using h0
    clear h0
    go_enter Tryz.func100, Tryz.ntmps100
    rw [hT.out]
    go_wp2_with fail
    exact ret_one (cs := #[.int .i64 1, .int .i64 a]) (g := w.heap.size + 1 + 1) rfl rfl (row3 _ _ _ _ _) Tryz.underlying35 rfl (by kernel_rfl) ⟨rfl, balloc (balloc (balloc (Below.refl _ _) _) _) _⟩
  have q0 : (k == 0) = false := by simpa using h0
  by_cases h1 : k = 1
  · have hT : Hid (toP (k, a) (x, y) = (x, y)) := by show _ = _; rw [h1]; rfl
    have q1 : (k == 1) = true := by simpa using h1
    clear h1
    go_enter Tryz.func100, Tryz.ntmps100
    rw [hT.out]
    go_wp2_with fail
    exact ret_one (cs := #[.int .i64 x, .int .i64 y]) (g := w.heap.size + 1 + 1) rfl rfl (row3 _ _ _ _ _) Tryz.underlying35 rfl (by kernel_rfl) ⟨rfl, balloc (balloc (balloc (Below.refl _ _) _) _) _⟩
  have q1 : (k == 1) = false := by simpa using h1
  by_cases h7 : k = 7
  · have hT : Hid (toP (k, a) (x, y) = (2, 0)) := by show _ = _; rw [h7]; rfl
    have q7 : (k == 7) = true := by simpa using h7
    clear h7
    go_enter Tryz.func100, Tryz.ntmps100
    rw [hT.out]
    go_wp2_with fail
    exact ret_one (cs := #[.int .i64 2, .int .i64 0]) (g := w.heap.size + 1 + 1) rfl rfl (row3 _ _ _ _ _) Tryz.underlying35 rfl (by kernel_rfl) ⟨rfl, balloc (balloc (balloc (Below.refl _ _) _) _) _⟩
  have q7 : (k == 7) = false := by simpa using h7
  by_cases h8 : k = 8
  · have hT : Hid (toP (k, a) (x, y) = (3, 0)) := by show _ = _; rw [h8]; rfl
    have q8 : (k == 8) = true := by simpa using h8
    clear h8
    go_enter Tryz.func100, Tryz.ntmps100
    rw [hT.out]
    go_wp2_with fail
    exact ret_one (cs := #[.int .i64 3, .int .i64 0]) (g := w.heap.size + 1 + 1) rfl rfl (row3 _ _ _ _ _) Tryz.underlying35 rfl (by kernel_rfl) ⟨rfl, balloc (balloc (balloc (Below.refl _ _) _) _) _⟩
  have q8 : (k == 8) = false := by simpa using h8
  have hT : Hid (toP (k, a) (x, y) = (0, 0)) := by show _ = _; unfold toP; simp [h0, h1, h7, h8]
  clear h0 h1 h7 h8
  go_enter Tryz.func100, Tryz.ntmps100
  rw [hT.out]
  go_wp2_with fail
  exact ret_one (cs := #[.int .i64 0, .int .i64 0]) (g := w.heap.size + 1 + 1) rfl rfl (row3 _ _ _ _ _) Tryz.underlying35 rfl (by kernel_rfl) ⟨rfl, balloc (balloc (balloc (Below.refl _ _) _) _) _⟩
theorem refIsType_any (x y : Int) (w : World) : Calls Tryz.prog 167 #[.agg #[.int .i64 x, .int .i64 y]] w fun e w' => e = .returned (.bool (tyOk (x, y))) ∧ Below w.heap.size w w' := by
  have hE : Hid (tyOk (x, y) = if x = 1 then decide (1 ≤ y ∧ y ≤ 64) else decide ((x = 0 ∨ x = 2 ∨ x = 3) ∧ y = 0)) := rfl
  have hb := balloc (Below.refl w.heap.size w) (.cells #[.int .i64 x, .int .i64 y] 35)
  have Hb := Lib.hid hb; clear hb
  by_cases h1 : x = 1
  · have d1 : (x == 1) = true := by simpa using h1
    by_cases h2 : 1 ≤ y
    · have d2 : decide (1 ≤ y) = true := by simpa using h2
      have hR : Hid (tyOk (x, y) = decide (y ≤ 64)) := by show _ = _; rw [hE.out, if_pos h1]; simp [h2]
      clear h1 h2
      go_enter Tryz.func167, Tryz.ntmps167
      go_wp2_with fail
      rw [hR.out]
      go_ret
      exact ⟨rfl, Hb.out⟩
    · have d2 : decide (1 ≤ y) = false := by simpa using h2
      have hR : Hid (tyOk (x, y) = false) := by show _ = _; rw [hE.out, if_pos h1]; simp [h2]
      clear h1 h2
      go_enter Tryz.func167, Tryz.ntmps167
      go_wp2_with fail
      rw [hR.out]
      go_ret
      exact ⟨rfl, Hb.out⟩
  have d1 : (x == 1) = false := by simpa using h1
  have hR0 : Hid (tyOk (x, y) = decide ((x = 0 ∨ x = 2 ∨ x = 3) ∧ y = 0)) := by show _ = _; rw [hE.out, if_neg h1]
  by_cases g0 : x = 0
  · have d3 : (x == 0) = true := by simpa using g0
    have hR : Hid (tyOk (x, y) = (y == 0)) := by show _ = _; rw [hR0.out, Bool.eq_iff_iff]; simp [g0]
    clear h1 g0
    go_enter Tryz.func167, Tryz.ntmps167
    go_wp2_with fail
    rw [hR.out]
    go_ret
    exact ⟨rfl, Hb.out⟩
  have d3 : (x == 0) = false := by simpa using g0
  by_cases g2 : x = 2
  · have d5 : (x == 2) = true := by simpa using g2
    have hR : Hid (tyOk (x, y) = (y == 0)) := by show _ = _; rw [hR0.out, Bool.eq_iff_iff]; simp [g2]
    clear h1 g0 g2
    go_enter Tryz.func167, Tryz.ntmps167
    go_wp2_with fail
    rw [hR.out]
    go_ret
    exact ⟨rfl, Hb.out⟩
  have d5 : (x == 2) = false := by simpa using g2
  by_cases g3 : x = 3
  · have d6 : (x == 3) = true := by simpa using g3
    have hR : Hid (tyOk (x, y) = (y == 0)) := by show _ = _; rw [hR0.out, Bool.eq_iff_iff]; simp [g3]
    clear h1 g0 g2 g3
    go_enter Tryz.func167, Tryz.ntmps167
    go_wp2_with fail
    rw [hR.out]
    go_ret
    exact ⟨rfl, Hb.out⟩
  have d6 : (x == 3) = false := by simpa using g3
  have hR : Hid (tyOk (x, y) = false) := by show _ = _; rw [hR0.out]; simp [g0, g2, g3]
  clear h1 g0 g2 g3
  go_enter Tryz.func167, Tryz.ntmps167
  go_wp2_with fail
  rw [hR.out]
  go_ret
  exact ⟨rfl, Hb.out⟩
theorem rowV.drewN {w : World} {g : Nat} {t : TypeId} {cs : Array Value} (h : rowV w g t cs) (q : Nat) : rowV (w.drewN q) g t cs := h
theorem name_nil {k : Int} (h : ¬ (0 ≤ k ∧ k < 10)) : nameP k = [] := by
  unfold nameP
  rw [if_neg (by omega), if_neg (by omega), if_neg (by omega), if_neg (by omega), if_neg (by omega), if_neg (by omega), if_neg (by omega), if_neg (by omega), if_neg (by omega), if_neg (by omega)]
theorem name_ne {k : Int} (h : 0 ≤ k ∧ k < 10) : (strB (nameP k)).toList.isEmpty = false := by
  have : ∀ k : Fin 10, (strB (nameP ((k.val : Nat) : Int))).toList.isEmpty = false := by decide +kernel
  have := this ⟨k.toNat, by omega⟩
  rwa [show (((⟨k.toNat, by omega⟩ : Fin 10).val : Nat) : Int) = k by simp; omega] at this
theorem refStep_any (k a x y : Int) (w : World) : Calls Tryz.prog 46 #[.agg #[.int .i64 k, .int .i64 a], .agg #[.int .i64 x, .int .i64 y]] w fun e w' =>
    e = .returned (.tuple #[.agg #[.int .i64 (stepP (k, a) (x, y)).1, .int .i64 (stepP (k, a) (x, y)).2], .int .i64 (errP (k, a) (x, y))]) ∧ Below w.heap.size w w' := by
  obtain ⟨w0, hw0, g0, s0, r1, r2, r3⟩ := boxesST w k a x y
  have hlt : w.heap.size + 1 + 1 < w0.heap.size := by omega
  obtain ⟨c1, c2⟩ := two_cellsV r1
  obtain ⟨c3, c4⟩ := two_cellsV r2
  obtain ⟨c5, c6⟩ := two_cellsV r3
  have z5 := r3.frozen 0
  have z6 := r3.frozen 1
  have Hr := Lib.hid r3
  have Hg := Lib.hid g0
  have Hw := Lib.hid hw0
  have HN := Lib.hid (refName_any k w0)
  clear r1 r2 r3 g0 hw0 s0
  by_cases h1 : ¬ (0 ≤ k ∧ k < 10)
  · rw [name_nil h1] at HN
    have n0 : (strB []).toList.isEmpty = true := by decide +kernel
    have hE : Hid (errP (k, a) (x, y) = 1 ∧ stepP (k, a) (x, y) = (x, y)) := by
      have : errP (k, a) (x, y) = 1 := by unfold errP; rw [if_pos (by omega)]
      exact ⟨this, by unfold stepP; rw [this, if_neg (by decide)]⟩
    clear h1
    rw [hE.out.1, hE.out.2]
    go_enter Tryz.func46, Tryz.ntmps46
    go_wp2_with fail
    rw [← Hw.out]
    refine HN.out.mono ?_
    rintro e w1 ⟨rfl, hw1⟩
    obtain rfl : w0 = w1 := hw1.symm
    go_wp2_with fail
    exact ret_cell rfl rfl rfl ((Hr.out.set 0 _).set 1 _) Tryz.underlying35 rfl (by kernel_rfl) ⟨rfl, (Below.setCell (p := ⟨w.heap.size + 1 + 1, 0, none⟩) Hg.out (by show w.heap.size ≤ w.heap.size + 1 + 1; omega) _).setCell (p := ⟨w.heap.size + 1 + 1, 1, none⟩) (by show w.heap.size ≤ w.heap.size + 1 + 1; omega) _⟩
  replace h1 := Classical.not_not.1 h1
  have n0 := name_ne h1
  obtain ⟨nm, hnm⟩ : ∃ nm, nm = nameP k := ⟨_, rfl⟩
  rw [← hnm] at n0 HN
  clear hnm
  by_cases h3 : k = 0
  · have d3 : (k == 0) = true := by simpa using h3
    have d3' : (k != 0) = false := by simp [h3]
    by_cases h4 : a < 1
    · have d4 : decide (a < 1) = true := by simpa using h4
      have hE : Hid (errP (k, a) (x, y) = 2 ∧ stepP (k, a) (x, y) = (x, y)) := by
        have : errP (k, a) (x, y) = 2 := by unfold errP; rw [if_neg (by omega), if_pos (by omega)]
        exact ⟨this, by unfold stepP; rw [this, if_neg (by decide)]⟩
      clear h1 h3 h4
      rw [hE.out.1, hE.out.2]
      go_enter Tryz.func46, Tryz.ntmps46
      go_wp2_with fail
      rw [← Hw.out]
      refine HN.out.mono ?_
      rintro e w1 ⟨rfl, hw1⟩
      obtain rfl : w0 = w1 := hw1.symm
      go_wp2_with fail
      exact ret_cell rfl rfl rfl ((Hr.out.set 0 _).set 1 _) Tryz.underlying35 rfl (by kernel_rfl) ⟨rfl, (Below.setCell (p := ⟨w.heap.size + 1 + 1, 0, none⟩) Hg.out (by show w.heap.size ≤ w.heap.size + 1 + 1; omega) _).setCell (p := ⟨w.heap.size + 1 + 1, 1, none⟩) (by show w.heap.size ≤ w.heap.size + 1 + 1; omega) _⟩
    have d4 : decide (a < 1) = false := by simpa using h4
    by_cases h5 : 64 < a
    · have d5 : decide (64 < a) = true := by simpa using h5
      have hE : Hid (errP (k, a) (x, y) = 2 ∧ stepP (k, a) (x, y) = (x, y)) := by
        have : errP (k, a) (x, y) = 2 := by unfold errP; rw [if_neg (by omega), if_pos (by omega)]
        exact ⟨this, by unfold stepP; rw [this, if_neg (by decide)]⟩
      clear h1 h3 h4 h5
      rw [hE.out.1, hE.out.2]
      go_enter Tryz.func46, Tryz.ntmps46
      go_wp2_with fail
      rw [← Hw.out]
      refine HN.out.mono ?_
      rintro e w1 ⟨rfl, hw1⟩
      obtain rfl : w0 = w1 := hw1.symm
      go_wp2_with fail
      exact ret_cell rfl rfl rfl ((Hr.out.set 0 _).set 1 _) Tryz.underlying35 rfl (by kernel_rfl) ⟨rfl, (Below.setCell (p := ⟨w.heap.size + 1 + 1, 0, none⟩) Hg.out (by show w.heap.size ≤ w.heap.size + 1 + 1; omega) _).setCell (p := ⟨w.heap.size + 1 + 1, 1, none⟩) (by show w.heap.size ≤ w.heap.size + 1 + 1; omega) _⟩
    have d5 : decide (64 < a) = false := by simpa using h5
    by_cases h6 : frK k ≠ x
    · have d6 : (frK k == x) = false := by simpa using h6
      have d6' : (frK k != x) = true := by simp [h6]
      have hE : Hid (errP (k, a) (x, y) = 13 ∧ stepP (k, a) (x, y) = (x, y)) := by
        have : errP (k, a) (x, y) = 13 := by unfold errP; rw [if_neg (by omega), if_neg (by omega), if_pos h6]
        exact ⟨this, by unfold stepP; rw [this, if_neg (by decide)]⟩
      clear h1 h6 h3 h4 h5
      rw [hE.out.1, hE.out.2]
      go_enter Tryz.func46, Tryz.ntmps46
      go_wp2_with fail
      rw [← Hw.out]
      refine HN.out.mono ?_
      rintro e w1 ⟨rfl, hw1⟩
      obtain rfl : w0 = w1 := hw1.symm
      go_wp2_with fail
      go_quiet (first | (go_at_call 99; exact Calls.quiet_of_same (refFrom_any _ _)))
      obtain ⟨nqa, hnqa⟩ : ∃ x, x = nq := ⟨_, rfl⟩
      rw [← hnqa]
      clear hnqa
      go_wp2_with fail
      exact ret_cell rfl rfl rfl (((Hr.out.drewN _).set 0 _).set 1 _) Tryz.underlying35 rfl (by kernel_rfl) ⟨rfl, (Below.setCell (p := ⟨w.heap.size + 1 + 1, 0, none⟩) (bdrew Hg.out _) (by show w.heap.size ≤ w.heap.size + 1 + 1; omega) _).setCell (p := ⟨w.heap.size + 1 + 1, 1, none⟩) (by show w.heap.size ≤ w.heap.size + 1 + 1; omega) _⟩
    replace h6 := Classical.not_not.1 h6
    have d6 : (frK k == x) = true := by simpa using h6
    have d6' : (frK k != x) = false := by simp [h6]
    have hE : Hid (errP (k, a) (x, y) = 0 ∧ stepP (k, a) (x, y) = toP (k, a) (x, y)) := by
      have : errP (k, a) (x, y) = 0 := by unfold errP; rw [if_neg (by omega), if_neg (by omega), if_neg (fun h => h h6)]
      exact ⟨this, by unfold stepP; rw [this, if_pos rfl]⟩
    clear h1 h6 h3 h4 h5
    rw [hE.out.1, hE.out.2]
    go_enter Tryz.func46, Tryz.ntmps46
    go_wp2_with fail
    rw [← Hw.out]
    refine HN.out.mono ?_
    rintro e w1 ⟨rfl, hw1⟩
    obtain rfl : w0 = w1 := hw1.symm
    go_wp2_with fail
    go_quiet (first | (go_at_call 99; exact Calls.quiet_of_same (refFrom_any _ _)))
    obtain ⟨nqa, hnqa⟩ : ∃ x, x = nq := ⟨_, rfl⟩
    rw [← hnqa]
    clear hnqa
    go_wp2_with fail
    refine (refTo_any k a x y _).mono ?_
    rintro e w2 ⟨rfl, hb2⟩
    have r2 := (Hr.out.drewN nqa).below hb2 (Hr.out.drewN nqa).lt
    have g2 := (bdrew Hg.out nqa).trans (hb2.mono (bdrew Hg.out nqa).size)
    clear c1 c2 c3 c4 c5 c6 z5 z6
    obtain ⟨c5, c6⟩ := two_cellsV r2
    have z5 := r2.frozen 0
    have z6 := r2.frozen 1
    have Hr2 := Lib.hid r2
    have Hg2 := Lib.hid g2
    clear r2 g2 hb2
    go_wp2_with fail
    exact ret_cell rfl rfl rfl ((Hr2.out.set 0 _).set 1 _) Tryz.underlying35 rfl (by kernel_rfl) ⟨rfl, (Below.setCell (p := ⟨w.heap.size + 1 + 1, 0, none⟩) Hg2.out (by show w.heap.size ≤ w.heap.size + 1 + 1; omega) _).setCell (p := ⟨w.heap.size + 1 + 1, 1, none⟩) (by show w.heap.size ≤ w.heap.size + 1 + 1; omega) _⟩
  have d3 : (k == 0) = false := by simpa using h3
  have d3' : (k != 0) = true := by simp [h3]
  by_cases h4 : ¬ a = 0
  · have d4 : (a == 0) = false := by simpa using h4
    have d4' : (a != 0) = true := by simp [h4]
    have hE : Hid (errP (k, a) (x, y) = 2 ∧ stepP (k, a) (x, y) = (x, y)) := by
      have : errP (k, a) (x, y) = 2 := by unfold errP; rw [if_neg (by omega), if_pos (by omega)]
      exact ⟨this, by unfold stepP; rw [this, if_neg (by decide)]⟩
    clear h1 h3 h4
    rw [hE.out.1, hE.out.2]
    go_enter Tryz.func46, Tryz.ntmps46
    go_wp2_with fail
    rw [← Hw.out]
    refine HN.out.mono ?_
    rintro e w1 ⟨rfl, hw1⟩
    obtain rfl : w0 = w1 := hw1.symm
    go_wp2_with fail
    exact ret_cell rfl rfl rfl ((Hr.out.set 0 _).set 1 _) Tryz.underlying35 rfl (by kernel_rfl) ⟨rfl, (Below.setCell (p := ⟨w.heap.size + 1 + 1, 0, none⟩) Hg.out (by show w.heap.size ≤ w.heap.size + 1 + 1; omega) _).setCell (p := ⟨w.heap.size + 1 + 1, 1, none⟩) (by show w.heap.size ≤ w.heap.size + 1 + 1; omega) _⟩
  replace h4 := Classical.not_not.1 h4
  have d4 : (a == 0) = true := by simpa using h4
  have d4' : (a != 0) = false := by simp [h4]
  by_cases h6 : frK k ≠ x
  · have d6 : (frK k == x) = false := by simpa using h6
    have d6' : (frK k != x) = true := by simp [h6]
    have hE : Hid (errP (k, a) (x, y) = 13 ∧ stepP (k, a) (x, y) = (x, y)) := by
      have : errP (k, a) (x, y) = 13 := by unfold errP; rw [if_neg (by omega), if_neg (by omega), if_pos h6]
      exact ⟨this, by unfold stepP; rw [this, if_neg (by decide)]⟩
    clear h1 h6 h3 h4
    rw [hE.out.1, hE.out.2]
    go_enter Tryz.func46, Tryz.ntmps46
    go_wp2_with fail
    rw [← Hw.out]
    refine HN.out.mono ?_
    rintro e w1 ⟨rfl, hw1⟩
    obtain rfl : w0 = w1 := hw1.symm
    go_wp2_with fail
    go_quiet (first | (go_at_call 99; exact Calls.quiet_of_same (refFrom_any _ _)))
    obtain ⟨nqa, hnqa⟩ : ∃ x, x = nq := ⟨_, rfl⟩
    rw [← hnqa]
    clear hnqa
    go_wp2_with fail
    exact ret_cell rfl rfl rfl (((Hr.out.drewN _).set 0 _).set 1 _) Tryz.underlying35 rfl (by kernel_rfl) ⟨rfl, (Below.setCell (p := ⟨w.heap.size + 1 + 1, 0, none⟩) (bdrew Hg.out _) (by show w.heap.size ≤ w.heap.size + 1 + 1; omega) _).setCell (p := ⟨w.heap.size + 1 + 1, 1, none⟩) (by show w.heap.size ≤ w.heap.size + 1 + 1; omega) _⟩
  replace h6 := Classical.not_not.1 h6
  have d6 : (frK k == x) = true := by simpa using h6
  have d6' : (frK k != x) = false := by simp [h6]
  have hE : Hid (errP (k, a) (x, y) = 0 ∧ stepP (k, a) (x, y) = toP (k, a) (x, y)) := by
    have : errP (k, a) (x, y) = 0 := by unfold errP; rw [if_neg (by omega), if_neg (by omega), if_neg (fun h => h h6)]
    exact ⟨this, by unfold stepP; rw [this, if_pos rfl]⟩
  clear h1 h6 h3 h4
  rw [hE.out.1, hE.out.2]
  go_enter Tryz.func46, Tryz.ntmps46
  go_wp2_with fail
  rw [← Hw.out]
  refine HN.out.mono ?_
  rintro e w1 ⟨rfl, hw1⟩
  obtain rfl : w0 = w1 := hw1.symm
  go_wp2_with fail
  go_quiet (first | (go_at_call 99; exact Calls.quiet_of_same (refFrom_any _ _)))
  obtain ⟨nqa, hnqa⟩ : ∃ x, x = nq := ⟨_, rfl⟩
  rw [← hnqa]
  clear hnqa
  go_wp2_with fail
  refine (refTo_any k a x y _).mono ?_
  rintro e w2 ⟨rfl, hb2⟩
  have r2 := (Hr.out.drewN nqa).below hb2 (Hr.out.drewN nqa).lt
  have g2 := (bdrew Hg.out nqa).trans (hb2.mono (bdrew Hg.out nqa).size)
  clear c1 c2 c3 c4 c5 c6 z5 z6
  obtain ⟨c5, c6⟩ := two_cellsV r2
  have z5 := r2.frozen 0
  have z6 := r2.frozen 1
  have Hr2 := Lib.hid r2
  have Hg2 := Lib.hid g2
  clear r2 g2 hb2
  go_wp2_with fail
  exact ret_cell rfl rfl rfl ((Hr2.out.set 0 _).set 1 _) Tryz.underlying35 rfl (by kernel_rfl) ⟨rfl, (Below.setCell (p := ⟨w.heap.size + 1 + 1, 0, none⟩) Hg2.out (by show w.heap.size ≤ w.heap.size + 1 + 1; omega) _).setCell (p := ⟨w.heap.size + 1 + 1, 1, none⟩) (by show w.heap.size ≤ w.heap.size + 1 + 1; omega) _⟩
theorem ret_cell3 {P : Program} {fn : Func} {p u u' : Tmp} {ty t : TypeId} {R : Ending → World → Prop} {tmps : Array Value} {W : World} {g : Nat} {cs : Array Value} {v v' : Value} {d : TypeDesc} (h : fn.results = #[.cell p ty, .tmp u, .tmp u'])
    (hp : tmps.getD p undef = .pointer (some ⟨g, 0, none⟩)) (hv : tmps.getD u undef = v) (hv' : tmps.getD u' undef = v') (hr : rowV W g t cs) (hu : P.underlying ty = some d) (hd : (match d with | .struct _ | .array _ _ => true | _ => false) = true) (hi : (P.info? ty).map (·.size) = some cs.size)
    (hR : R (.returned (.tuple #[.agg cs, v, v'])) W) : bodyPost P fn R .ret { tmps := tmps, defers := [] } W := by
  refine bodyPost_ret (v := .tuple #[.agg cs, v, v']) ?_ rfl hR
  have hp' : tmps[p]?.getD undef = .pointer (some ⟨g, 0, none⟩) := by simpa using hp
  have hv1 : tmps[u]?.getD undef = v := by simpa using hv
  have hv2 : tmps[u']?.getD undef = v' := by simpa using hv'
  simp [results, h, hp', hv1, hv2, asAddr, run_loadVar_row W g t ty cs (0, 0) d hr hu hd hi, Result.andThen, Sem.run_bind]
def BoxT (w : World) (t : Ty) (W : World) : Prop := rowV W w.heap.size 35 #[.int .i64 t.1, .int .i64 t.2] ∧ rowV W (w.heap.size + 1) 35 #[.int .i64 0, .int .i64 0] ∧ Below w.heap.size w W
theorem BoxT.below {w W W' : World} {t : Ty} (h : BoxT w t W) (hb : Below W.heap.size W W') : BoxT w t W' := ⟨h.1.below hb h.1.lt, h.2.1.below hb h.2.1.lt, h.2.2.trans (hb.mono h.2.2.size)⟩
theorem BoxT.drew {w W : World} {t : Ty} (h : BoxT w t W) : BoxT w t W.drew := ⟨h.1, h.2.1, bdrew h.2.2 1⟩
theorem BoxT.drewN {w W : World} {t : Ty} (h : BoxT w t W) (q : Nat) : BoxT w t (W.drewN q) := ⟨h.1, h.2.1, bdrew h.2.2 q⟩
theorem BoxT.set {w W : World} {t : Ty} (h : BoxT w t W) (a b : Int) : BoxT w (a, b) ((W.setCell ⟨w.heap.size, 0, none⟩ (.int .i64 a)).setCell ⟨w.heap.size, 1, none⟩ (.int .i64 b)) := by
  refine ⟨(h.1.set 0 _).set 1 _, ?_, (h.2.2.setCell (p := ⟨w.heap.size, 0, none⟩) (Nat.le_refl _) _).setCell (p := ⟨w.heap.size, 1, none⟩) (Nat.le_refl _) _⟩
  have e := h.2.1
  unfold rowV at e ⊢
  rw [Below.heap_setCell _ _ _ _ (by simp), Below.heap_setCell _ _ _ _ (by simp)]
  exact e
theorem BoxT.setAt {w W : World} {t : Ty} (h : BoxT w t W) {g : Nat} (hg : w.heap.size + 1 < g) (j : Nat) (v : Value) : BoxT w t (W.setCell ⟨g, j, none⟩ v) := by
  refine ⟨?_, ?_, h.2.2.setCell (p := ⟨g, j, none⟩) (by show w.heap.size ≤ g; omega) _⟩
  · have e := h.1
    unfold rowV at e ⊢
    rw [Below.heap_setCell _ _ _ _ (by simp; omega)]; exact e
  · have e := h.2.1
    unfold rowV at e ⊢
    rw [Below.heap_setCell _ _ _ _ (by simp; omega)]; exact e
theorem BoxT.cells {w W : World} {t : Ty} (h : BoxT w t W) : W.cell? ⟨w.heap.size, 0, none⟩ = some (.int .i64 t.1) ∧ W.cell? ⟨w.heap.size, 1, none⟩ = some (.int .i64 t.2) ∧ W.frozen? ⟨w.heap.size, 0, none⟩ = false ∧ W.frozen? ⟨w.heap.size, 1, none⟩ = false ∧
    W.cell? ⟨w.heap.size + 1, 0, none⟩ = some (.int .i64 0) ∧ W.cell? ⟨w.heap.size + 1, 1, none⟩ = some (.int .i64 0) ∧ W.frozen? ⟨w.heap.size + 1, 0, none⟩ = false ∧ W.frozen? ⟨w.heap.size + 1, 1, none⟩ = false ∧ w.heap.size + 1 < W.heap.size :=
  ⟨(two_cellsV h.1).1, (two_cellsV h.1).2, h.1.frozen 0, h.1.frozen 1, (two_cellsV h.2.1).1, (two_cellsV h.2.1).2, h.2.1.frozen 0, h.2.1.frozen 1, h.2.1.lt⟩
theorem mid_A {w wr w2 : World} {t : Ty} (h : BoxT w t wr) (hb : Below wr.drew.heap.size wr.drew w2) : w2.cell? ⟨w.heap.size, 0, none⟩ = some (.int .i64 t.1) ∧ w2.cell? ⟨w.heap.size, 1, none⟩ = some (.int .i64 t.2) ∧ w2.frozen? ⟨w.heap.size, 0, none⟩ = false ∧ w2.frozen? ⟨w.heap.size, 1, none⟩ = false ∧
    w2.frozen? ⟨w.heap.size + 1, 0, none⟩ = false ∧ w2.frozen? ⟨w.heap.size + 1, 1, none⟩ = false ∧ w2.cell? ⟨w.heap.size + 1, 0, none⟩ = some (.int .i64 0) ∧ w2.cell? ⟨w.heap.size + 1, 1, none⟩ = some (.int .i64 0) ∧ w.heap.size + 1 < w2.heap.size ∧ w.heap.size < w2.heap.size ∧ Hid (BoxT w t w2) := by
  have h2 := h.drew.below hb
  obtain ⟨a, b, c, d, e, f, g, i, j⟩ := h2.cells
  exact ⟨a, b, c, d, g, i, e, f, j, by omega, Lib.hid h2⟩
theorem mid_B {w wr w2 : World} {t : Ty} (h : BoxT w t wr) (hb : Below (wr.alloc (.cells #[.int .i64 0, .int .i64 0] 35)).drew.heap.size (wr.alloc (.cells #[.int .i64 0, .int .i64 0] 35)).drew w2) : w2.cell? ⟨w.heap.size, 0, none⟩ = some (.int .i64 t.1) ∧ w2.cell? ⟨w.heap.size, 1, none⟩ = some (.int .i64 t.2) ∧ w2.frozen? ⟨w.heap.size, 0, none⟩ = false ∧ w2.frozen? ⟨w.heap.size, 1, none⟩ = false ∧
    w2.frozen? ⟨w.heap.size + 1, 0, none⟩ = false ∧ w2.frozen? ⟨w.heap.size + 1, 1, none⟩ = false ∧ w2.cell? ⟨w.heap.size + 1, 0, none⟩ = some (.int .i64 0) ∧ w2.cell? ⟨w.heap.size + 1, 1, none⟩ = some (.int .i64 0) ∧ w.heap.size + 1 < wr.heap.size ∧ w.heap.size < wr.heap.size ∧ Hid (BoxT w t w2) ∧
    w2.cell? ⟨wr.heap.size, 0, none⟩ = some (.int .i64 0) ∧ w2.cell? ⟨wr.heap.size, 1, none⟩ = some (.int .i64 0) ∧ w2.frozen? ⟨wr.heap.size, 0, none⟩ = false ∧ w2.frozen? ⟨wr.heap.size, 1, none⟩ = false := by
  have h2 := ((h.below (balloc (Below.refl _ wr) (.cells #[.int .i64 0, .int .i64 0] 35))).drew).below hb
  obtain ⟨a, b, c, d, e, f, g, i, j⟩ := h2.cells
  have r : rowV w2 wr.heap.size 35 #[.int .i64 0, .int .i64 0] := (show rowV (wr.alloc (.cells #[.int .i64 0, .int .i64 0] 35)).drew wr.heap.size 35 #[.int .i64 0, .int .i64 0] from rowV.new wr 35 #[.int .i64 0, .int .i64 0]).below hb (by show wr.heap.size < (wr.alloc _).heap.size; rw [World.size_alloc]; exact Nat.lt_succ_self _)
  have k := h.2.1.lt
  exact ⟨a, b, c, d, g, i, e, f, k, by omega, Lib.hid h2, (two_cellsV r).1, (two_cellsV r).2, r.frozen 0, r.frozen 1⟩
theorem refTyped_any (A : Option Addr) (n c : Nat) (l : List Stg) (x y : Int) (w : World) (hx : Stgs w A n c l) (hn : n ≤ 1000000000000) : Calls Tryz.prog 97 #[.slice A n c, .agg #[.int .i64 x, .int .i64 y]] w fun e w' =>
    e = .returned (.tuple #[.agg #[.int .i64 (typeP l (x, y)).1, .int .i64 (typeP l (x, y)).2], .int .i64 (typE l (x, y)).2, .int .i64 (typE l (x, y)).1]) ∧ Below w.heap.size w w' := by
  have Hl := Lib.hid hx.1
  obtain ⟨w0, hw0, g0, s0, r1, r2⟩ := boxesTT w x y
  have HW0 := Lib.hid hw0; clear hw0
  have HB0 := Lib.hid (show BoxT w (x, y) w0 from ⟨r1, r2, g0⟩)
  have lt0 : w.heap.size + 1 < w0.heap.size := by omega
  obtain ⟨c1, c2⟩ := two_cellsV r1
  obtain ⟨c3, c4⟩ := two_cellsV r2
  have z3 := r2.frozen 0
  have z4 := r2.frozen 1
  clear r1 r2 g0 s0
  by_cases h8 : 8 < n
  · have d8 : decide ((8 : Int) < (n : Int)) = true := by simp; omega
    have d8' : decide (8 < n) = true := by simp; omega
    have hT : typE l (x, y) = (6, -1) := by unfold typE; rw [if_pos (by rw [Hl.out]; exact h8)]
    have hP : typeP l (x, y) = (0, 0) := by unfold typeP; rw [hT]; rfl
    rw [hT, hP]
    clear hT hP
    go_enter Tryz.func97, Tryz.ntmps97
    go_wp2_with fail
    rw [← HW0.out]
    exact ret_cell3 rfl rfl rfl rfl HB0.out.2.1 Tryz.underlying35 rfl (by kernel_rfl) ⟨rfl, HB0.out.2.2⟩
  have d8 : decide ((8 : Int) < (n : Int)) = false := by simp; omega
  have d8' : decide (8 < n) = false := by simp; omega
  have HP := Lib.hid (refIsType_any x y w0)
  cases hok : tyOk (x, y) with
  | false =>
    have hT : typE l (x, y) = (1, -1) := by unfold typE; rw [if_neg (by rw [Hl.out]; exact h8), if_pos hok]
    have hP : typeP l (x, y) = (0, 0) := by unfold typeP; rw [hT]; rfl
    rw [hT, hP]
    rw [hok] at HP
    clear hok hT hP
    go_enter Tryz.func97, Tryz.ntmps97
    go_wp2_with fail
    rw [← HW0.out]
    refine HP.out.mono ?_
    rintro e w1 ⟨rfl, hb1⟩
    have H1 := Lib.hid (HB0.out.below hb1)
    obtain ⟨a1, a2, a3, a4, a5, a6, a7, a8, a9⟩ := H1.out.cells
    clear hb1 c1 c2 c3 c4 z3 z4
    go_wp2_with fail
    exact ret_cell3 rfl rfl rfl rfl ((H1.out.2.1.set 0 _).set 1 _) Tryz.underlying35 rfl (by kernel_rfl) ⟨rfl, (H1.out.2.2.setCell (p := ⟨w.heap.size + 1, 0, none⟩) (Nat.le_succ _) _).setCell (p := ⟨w.heap.size + 1, 1, none⟩) (Nat.le_succ _) _⟩
  | true =>
    rw [hok] at HP
    have Hok := Lib.hid hok
    clear hok
    go_enter Tryz.func97, Tryz.ntmps97
    go_wp2_with fail
    rw [← HW0.out]
    refine HP.out.mono ?_
    rintro e w1 ⟨rfl, hb1⟩
    have H1 := Lib.hid (HB0.out.below hb1)
    clear hb1 c1 c2 c3 c4 z3 z4 HB0 HP
    go_wp2_with fail
    have hst : Hid (fstE (eK l (x, y)) n 0 = fstE (eK l (x, y)) (n - 0) 0) := rfl
    go_loopw [7, 8, 9] (fun i _ _ wr => ∃ (k : Nat), k ≤ n ∧ i = .int .i64 (k : Int) ∧ Hid (fstE (eK l (x, y)) n 0 = fstE (eK l (x, y)) (n - k) k) ∧ Hid (BoxT w (tK l (x, y) k) wr)) (fun i _ _ _ => n - (intOf i).toNat)
    case atStart => exact ⟨0, Nat.zero_le _, rfl, hst, H1⟩
    case round =>
      obtain ⟨k, hk, rfl, HF, HR⟩ := hrel
      by_cases hlt : k < n
      · have d0 : decide ((k : Int) < (n : Int)) = true := by simp; omega
        have d0' : decide (k < n) = true := by simp; omega
        obtain ⟨sb, so, rfl, hsb, hs1, hs2⟩ := hx.cell hlt
        have y1 : wr.cell? ⟨sb, so + k * 2, none⟩ = some (.int .i64 (sG l k).1) := (HR.out.2.2.cell (p := ⟨sb, so + k * 2, none⟩) hsb).trans hs1
        have y2 : wr.cell? ⟨sb, so + k * 2 + 1, none⟩ = some (.int .i64 (sG l k).2) := (HR.out.2.2.cell (p := ⟨sb, so + k * 2 + 1, none⟩) hsb).trans hs2
        have ysz : sb < wr.heap.size := Nat.lt_of_lt_of_le hsb HR.out.2.2.size
        clear hs1 hs2
        have hE : Hid (errP (sG l k) (tK l (x, y) k) = eK l (x, y) k) := rfl
        have hN : Hid (stepP (sG l k) (tK l (x, y) k) = tK l (x, y) (k + 1)) := rfl
        obtain ⟨s, hs⟩ : ∃ s, s = sG l k := ⟨_, rfl⟩
        obtain ⟨t, ht⟩ : ∃ t, t = tK l (x, y) k := ⟨_, rfl⟩
        rw [← hs] at y1 y2 hE hN
        rw [← ht] at hE hN HR
        clear hs ht
        obtain ⟨a1, a2⟩ := s
        obtain ⟨t1, t2⟩ := t
        dsimp only at y1 y2
        obtain ⟨b1, b2, b3, b4, -, -, -, -, b9⟩ := HR.out.cells
        have b8 : w.heap.size < wr.heap.size := by omega
        dsimp only at b1 b2
        have HS := Lib.hid (refStep_any a1 a2 t1 t2)
        obtain ⟨er, her⟩ : ∃ er, er = errP (a1, a2) (t1, t2) := ⟨_, rfl⟩
        obtain ⟨nx, hnx⟩ : ∃ nx, nx = stepP (a1, a2) (t1, t2) := ⟨_, rfl⟩
        rw [← her, ← hnx] at HS
        rw [← her] at hE
        rw [← hnx] at hN
        clear her hnx
        obtain ⟨n1, n2⟩ := nx
        dsimp only at HS
        go_wp2_with fail
        go_region_with (first
          | (go_at_call 46; refine (HS.out (wr.drew)).mono ?_; rintro e w2 ⟨rfl, hb2⟩; obtain ⟨m1, m2, m3, m4, m5, m6, m7, m8, m9, m10, HM⟩ := mid_A HR.out hb2)
          | (go_at_call 46; refine (HS.out ((wr.alloc (.cells #[.int .i64 0, .int .i64 0] 35)).drew)).mono ?_; rintro e w2 ⟨rfl, hb2⟩; obtain ⟨m1, m2, m3, m4, m5, m6, m7, m8, m9, m10, HM, m11, m12, m13, m14⟩ := mid_B HR.out hb2))
        all_goals
          by_cases he : er = 0
          · subst he
            have HFn := Lib.hid (HF.out.trans (fstE_step hlt))
            go_wp2_with fail
            go_roundw
            case rel =>
              refine ⟨k + 1, by omega, by go_num, Lib.hid (by rw [HFn.out, if_pos hE.out.symm]), Lib.hid ?_⟩
              rw [← hN.out]
              first | exact (HM.out.set n1 n2).below (balloc (Below.refl _ _) _) | exact ((HM.out.setAt m9 0 (.int .i64 n1)).setAt m9 1 (.int .i64 n2)).set n1 n2
            case measure => (simp [intOf]) <;> omega
          · have q0 : (er == 0) = false := by simpa using he
            have q0' : (er != 0) = true := by simp [he]
            have hT := errP_ne Hl.out (by omega) Hok.out HF.out hlt (by rw [← hE.out]; exact he)
            rw [← hE.out] at hT
            have hP : typeP l (x, y) = (0, 0) := by unfold typeP; rw [hT]; exact if_neg he
            have HT := Lib.hid (And.intro hT hP)
            clear he hT hP
            go_wp2_with fail
            rw [HT.out.1, HT.out.2]
            first
              | exact ret_cell3 rfl rfl rfl rfl (((HM.out.2.1.set 0 _).set 1 _).below (balloc (Below.refl _ _) _) ((HM.out.2.1.set 0 _).set 1 _).lt) Tryz.underlying35 rfl (by kernel_rfl) ⟨rfl, balloc ((HM.out.2.2.setCell (p := ⟨w.heap.size + 1, 0, none⟩) (Nat.le_succ _) _).setCell (p := ⟨w.heap.size + 1, 1, none⟩) (Nat.le_succ _) _) _⟩
              | exact ret_cell3 rfl rfl rfl rfl ((((HM.out.setAt m9 0 (.int .i64 n1)).setAt m9 1 (.int .i64 n2)).2.1.set 0 _).set 1 _) Tryz.underlying35 rfl (by kernel_rfl) ⟨rfl, (((HM.out.setAt m9 0 (.int .i64 n1)).setAt m9 1 (.int .i64 n2)).2.2.setCell (p := ⟨w.heap.size + 1, 0, none⟩) (Nat.le_succ _) _).setCell (p := ⟨w.heap.size + 1, 1, none⟩) (Nat.le_succ _) _⟩
      · obtain rfl : k = n := by omega
        have d0 : decide ((k : Int) < (k : Int)) = false := by simp
        have hT := types_end Hl.out (by omega) Hok.out HF.out
        have hP : typeP l (x, y) = tK l (x, y) k := by unfold typeP; rw [hT, if_pos rfl, Hl.out]
        rw [← hP] at HR
        have HT := Lib.hid hT
        obtain ⟨T, hT2⟩ : ∃ T, T = typeP l (x, y) := ⟨_, rfl⟩
        rw [← hT2] at HR
        have HT2 := Lib.hid hT2
        obtain ⟨T1, T2⟩ := T
        obtain ⟨a1, a2, a3, a4, a5, a6, a7, a8, a9⟩ := HR.out.cells
        have b8 : w.heap.size < wr.heap.size := by omega
        dsimp only at a1 a2
        clear hP hT hT2
        go_wp2_with fail
        rw [HT.out, ← HT2.out]
        exact ret_cell3 rfl rfl rfl rfl ((HR.out.2.1.set 0 _).set 1 _) Tryz.underlying35 rfl (by kernel_rfl) ⟨rfl, (HR.out.2.2.setCell (p := ⟨w.heap.size + 1, 0, none⟩) (Nat.le_succ _) _).setCell (p := ⟨w.heap.size + 1, 1, none⟩) (Nat.le_succ _) _⟩
theorem refType_any (A : Option Addr) (n c : Nat) (l : List Stg) (x y : Int) (w : World) (hx : Stgs w A n c l) (hn : n ≤ 1000000000000) :
    Calls Tryz.prog 45 #[.slice A n c, .agg #[.int .i64 x, .int .i64 y]] w fun e w' => e = .returned (.tuple #[.agg #[.int .i64 (typeP l (x, y)).1, .int .i64 (typeP l (x, y)).2], .int .i64 (typE l (x, y)).1]) ∧ Below w.heap.size w w' := by
  obtain ⟨w0, hw0, g0, s0, r1, r2⟩ := boxesTT w x y
  have HT := Lib.hid (refTyped_any A n c l x y w0 (hx.below g0) hn)
  obtain ⟨T, hT⟩ : ∃ T, T = typeP l (x, y) := ⟨_, rfl⟩
  obtain ⟨er, her⟩ : ∃ er, er = typE l (x, y) := ⟨_, rfl⟩
  rw [← hT, ← her] at HT ⊢
  clear hT her
  obtain ⟨T1, T2⟩ := T
  obtain ⟨er, ix⟩ := er
  dsimp only at HT ⊢
  have HW0 := Lib.hid hw0; clear hw0
  have HB0 := Lib.hid (show BoxT w (x, y) w0 from ⟨r1, r2, g0⟩)
  clear r1 r2 g0 s0
  go_enter Tryz.func45, Tryz.ntmps45
  go_wp2_with fail
  rw [← HW0.out]
  refine HT.out.mono ?_
  rintro e w1 ⟨rfl, hb1⟩
  have HR := Lib.hid (HB0.out.below hb1)
  obtain ⟨a1, a2, a3, a4, a5, a6, a7, a8, a9⟩ := HR.out.cells
  have b8 : w.heap.size < w1.heap.size := by omega
  clear hb1 HB0 HT
  go_wp2_with fail
  exact ret_cell rfl rfl rfl (((HR.out.2.1.set 0 _).set 1 _).below (balloc (Below.refl _ _) _) ((HR.out.2.1.set 0 _).set 1 _).lt) Tryz.underlying35 rfl (by kernel_rfl) ⟨rfl, balloc ((HR.out.2.2.setCell (p := ⟨w.heap.size + 1, 0, none⟩) (Nat.le_succ _) _).setCell (p := ⟨w.heap.size + 1, 1, none⟩) (Nat.le_succ _) _) _⟩
theorem refCheck_any (A : Option Addr) (n c : Nat) (l : List Stg) (w : World) (hx : Stgs w A n c l) (hn : n ≤ 1000000000000) :
    Calls Tryz.prog 18 #[.slice A n c] w fun e w' => e = .returned (.int .i64 (typE l (0, 0)).1) ∧ Below w.heap.size w w' := by
  have H := Lib.hid (refType_any A n c l 0 0 w hx hn)
  obtain ⟨T, hT⟩ : ∃ T, T = typeP l (0, 0) := ⟨_, rfl⟩
  obtain ⟨er, her⟩ : ∃ er, er = (typE l (0, 0)).1 := ⟨_, rfl⟩
  rw [← hT, ← her] at H
  rw [← her]
  clear hT her
  go_enter Tryz.func18, Tryz.ntmps18
  go_wp2_with fail
  refine H.out.mono ?_
  rintro e w1 ⟨rfl, hb1⟩
  go_wp2_with fail
  go_ret
  exact ⟨rfl, balloc hb1 _⟩
end Go.Proofs.YtohadkmaemmfgaaGreatDoor
