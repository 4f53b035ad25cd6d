/- Types of pipelines: Type, Check. -/
import Derived.Test.YtckkmafppfcecaaGreatDoorYd
namespace Go.Proofs.YtckkmafppfcecaaGreatDoor
open Go.RowKit Go.Proofs
set_option linter.unusedVariables false
set_option linter.unusedSimpArgs false

theorem boxesTT (w : World) (c d : Int) : ∃ w0, w0 = (w.alloc (.cells #[.int .i64 c, .int .i64 d] 33)).alloc (.cells #[.int .i64 0, .int .i64 0] 33) ∧ Below w.heap.size w w0 ∧ w0.heap.size = w.heap.size + 1 + 1 ∧ rowV w0 w.heap.size 33 #[.int .i64 c, .int .i64 d] ∧ rowV w0 (w.heap.size + 1) 33 #[.int .i64 0, .int .i64 0] := by
  have r1 := rowV.new w 33 #[.int .i64 c, .int .i64 d]
  have r2 := rowV.new (w.alloc (.cells #[.int .i64 c, .int .i64 d] 33)) 33 #[.int .i64 0, .int .i64 0]
  have k1 := balloc (Below.refl _ (w.alloc (.cells #[.int .i64 c, .int .i64 d] 33))) (.cells #[.int .i64 0, .int .i64 0] 33)
  have e1 : (w.alloc (.cells #[.int .i64 c, .int .i64 d] 33)).heap.size = w.heap.size + 1 := by simp
  rw [e1] at r2
  exact ⟨_, rfl, balloc (balloc (Below.refl _ _) _) _, by simp, r1.below k1 r1.lt, r2⟩
theorem tysTo_last (l : List Stg) (t : Ty) : (tysTo l t l.length).getD l.length (0, 0) = tK l t l.length := by
  unfold tysTo
  rw [List.getD_eq_getElem?_getD, List.getElem?_map, List.getElem?_range (by omega)]; rfl

set_option maxRecDepth 100000 in
set_option maxHeartbeats 2000000 in
theorem type_any (A : Option Addr) (n c : Nat) (l : List Stg) (x y : Int) (w : World) (hx : Stgs w A n c l) (hn : n ≤ 1000000000000) :
    Calls Tryz.prog 15 #[.slice A n c, .agg #[.int .i64 x, .int .i64 y]] w fun e w' => e = .returned (.tuple #[.agg #[.int .i64 (typeP l (x, y)).1, .int .i64 (typeP l (x, y)).2], .int .i64 (typE l (x, y)).1]) ∧ Below w.heap.size w w' := by
  obtain ⟨w0, hw0, g0, s0, r1, r2⟩ := boxesTT w x y
  have hl := hx.1
  have HT := Lib.hid (types_any A n c l x y w0 (hx.below g0) hn)
  have Hl := Lib.hid hl; clear hl
  have Hw := Lib.hid hw0; clear hw0
  have g1 := Lib.hid g0; clear g0
  have hlt : w.heap.size + 1 < w0.heap.size := by omega
  have R2 := Lib.hid r2
  clear r1 r2
  have hP : Hid (typeP l (x, y) = if (typE l (x, y)).1 = 0 then tK l (x, y) l.length else (0, 0)) := rfl
  obtain ⟨er, her⟩ : ∃ er, er = typE l (x, y) := ⟨_, rfl⟩
  rw [← her] at hP ⊢
  have Her := Lib.hid her; clear her
  obtain ⟨er, ix⟩ := er
  dsimp only at hP ⊢
  obtain ⟨T, hT⟩ : ∃ T, T = typeP l (x, y) := ⟨_, rfl⟩
  rw [← hT] at hP ⊢
  clear hT
  obtain ⟨T1, T2⟩ := T
  dsimp only at hP ⊢
  go_enter Tryz.func15, Tryz.ntmps15
  go_wp2_with fail
  rw [← Hw.out]
  refine HT.out.mono ?_
  rintro e w1 ⟨hp, hb1⟩
  rw [← Her.out] at hp
  dsimp only at hp
  have r3 := R2.out.below hb1 R2.out.lt
  have z5 := r3.frozen 0
  have z6 := r3.frozen 1
  obtain ⟨u1, u2⟩ := two_cellsV r3
  have HR3 := Lib.hid r3
  have hbl := Lib.hid (g1.out.trans (hb1.mono g1.out.size))
  by_cases he : er = 0
  · rw [if_pos he] at hp hP
    subst he
    obtain ⟨A2, c2, rfl, ho⟩ := hp
    obtain rfl := Hl.out
    obtain ⟨g, rfl, hg1, hg2, hgc⟩ := ho.get (fun _ => rfl) (by decide) (0, 0) (Nat.succ_pos _)
    have y1 := hgc l.length 0 _ (Nat.lt_succ_self _) rfl
    have y2 := hgc l.length 1 _ (Nat.lt_succ_self _) rfl
    rw [tysTo_last] at y1 y2
    rw [← hP.out] at y1 y2
    have hcap := ho.cap
    have e0 : l.length * 2 + 0 = l.length * 2 := rfl
    rw [e0] at y1
    have d0 : decide ((l.length : Int) < ((l.length + 1 : Nat) : Int)) = true := by simp; omega
    have d0' : decide (l.length < l.length + 1) = true := by simp
    clear r3 hgc ho hb1 HT hP e0
    dsimp only at y1 y2
    go_wp2_with fail
    exact ret_cell rfl rfl rfl ((HR3.out.set 0 _).set 1 _) Tryz.underlying33 rfl (by kernel_rfl) ⟨rfl, ((hbl.out.setCell (p := ⟨w.heap.size + 1, 0, none⟩) (Nat.le_succ _) _).setCell (p := ⟨w.heap.size + 1, 1, none⟩) (Nat.le_succ _) _)⟩
  · rw [if_neg he] at hp hP
    subst hp
    have q0 : (er == 0) = false := by simpa using he
    have e3 := hP.out
    simp only [Prod.mk.injEq] at e3
    obtain ⟨rfl, rfl⟩ := e3
    clear r3 hb1 HT hP he
    go_wp2_with fail
    exact ret_cell rfl rfl rfl ((HR3.out.set 0 _).set 1 _) Tryz.underlying33 rfl (by kernel_rfl) ⟨rfl, ((hbl.out.setCell (p := ⟨w.heap.size + 1, 0, none⟩) (Nat.le_succ _) _).setCell (p := ⟨w.heap.size + 1, 1, none⟩) (Nat.le_succ _) _)⟩

theorem check_any (A : Option Addr) (n c : Nat) (l : List Stg) (w : World) (hx : Stgs w A n c l) (hn : n ≤ 1000000000000) :
    Calls Tryz.prog 17 #[.slice A n c] w fun e w' => e = .returned (.int .i64 (typE l (0, 0)).1) ∧ Below w.heap.size w w' := by
  have H := Lib.hid (type_any A n c l 0 0 w hx hn)
  obtain ⟨T, hT⟩ : ∃ T, T = typeP l (0, 0) := ⟨_, rfl⟩
  obtain ⟨er, her⟩ : ∃ er, er = (typE l (0, 0)).1 := ⟨_, rfl⟩
  rw [← hT, ← her] at H
  rw [← her]
  clear hT her
  go_enter Tryz.func17, Tryz.ntmps17
  go_wp2_with fail
  refine H.out.mono ?_
  rintro e w1 ⟨rfl, hb1⟩
  go_wp2_with fail
  go_ret
  exact ⟨rfl, balloc hb1 _⟩
end Go.Proofs.YtckkmafppfcecaaGreatDoor
