/- The reference: Type, Check. -/
import Derived.Test.YtckkmafppfcecaaGreatDoorYt
namespace Go.Proofs.YtckkmafppfcecaaGreatDoor
open Go.RowKit Go.Proofs
set_option linter.unusedVariables false
set_option linter.unusedSimpArgs false

set_option maxRecDepth 100000 in
set_option maxHeartbeats 1000000 in
theorem refType_any (A : Option Addr) (n c : Nat) (l : List Stg) (x y : Int) (w : World) (hx : Stgs w A n c l) (hn : n ≤ 1000000000000) :
    Calls Tryz.prog 16 #[.slice A n c, .agg #[.int .i64 x, .int .i64 y]] w fun e w' => e = .returned (.tuple #[.agg #[.int .i64 (typeP l (x, y)).1, .int .i64 (typeP l (x, y)).2], .int .i64 (typE l (x, y)).1]) ∧ Below w.heap.size w w' := by
  obtain ⟨w0, hw0, g0, s0, r1, r2⟩ := boxesTT w x y
  have HT := Lib.hid (refTyped_any A n c l x y w0 (hx.below g0) hn)
  obtain ⟨T, hT⟩ : ∃ T, T = typeP l (x, y) := ⟨_, rfl⟩
  obtain ⟨er, her⟩ : ∃ er, er = typE l (x, y) := ⟨_, rfl⟩
  rw [← hT, ← her] at HT ⊢
  clear hT her
  obtain ⟨T1, T2⟩ := T
  obtain ⟨er, ix⟩ := er
  dsimp only at HT ⊢
  have HW0 := Lib.hid hw0; clear hw0
  have HB0 := Lib.hid (show BoxT w (x, y) w0 from ⟨r1, r2, g0⟩)
  clear r1 r2 g0 s0
  go_enter Tryz.func16, Tryz.ntmps16
  go_wp2_with fail
  rw [← HW0.out]
  refine HT.out.mono ?_
  rintro e w1 ⟨rfl, hb1⟩
  have HR := Lib.hid (HB0.out.below hb1)
  obtain ⟨a1, a2, a3, a4, a5, a6, a7, a8, a9⟩ := HR.out.cells
  have b8 : w.heap.size < w1.heap.size := by omega
  clear hb1 HB0 HT
  go_wp2_with fail
  exact ret_cell rfl rfl rfl (((HR.out.2.1.set 0 _).set 1 _).below (balloc (Below.refl _ _) _) ((HR.out.2.1.set 0 _).set 1 _).lt) Tryz.underlying33 rfl (by kernel_rfl) ⟨rfl, balloc ((HR.out.2.2.setCell (p := ⟨w.heap.size + 1, 0, none⟩) (Nat.le_succ _) _).setCell (p := ⟨w.heap.size + 1, 1, none⟩) (Nat.le_succ _) _) _⟩
theorem refCheck_any (A : Option Addr) (n c : Nat) (l : List Stg) (w : World) (hx : Stgs w A n c l) (hn : n ≤ 1000000000000) :
    Calls Tryz.prog 18 #[.slice A n c] w fun e w' => e = .returned (.int .i64 (typE l (0, 0)).1) ∧ Below w.heap.size w w' := by
  have H := Lib.hid (refType_any A n c l 0 0 w hx hn)
  obtain ⟨T, hT⟩ : ∃ T, T = typeP l (0, 0) := ⟨_, rfl⟩
  obtain ⟨er, her⟩ : ∃ er, er = (typE l (0, 0)).1 := ⟨_, rfl⟩
  rw [← hT, ← her] at H
  rw [← her]
  clear hT her
  go_enter Tryz.func18, Tryz.ntmps18
  go_wp2_with fail
  refine H.out.mono ?_
  rintro e w1 ⟨rfl, hb1⟩
  go_wp2_with fail
  go_ret
  exact ⟨rfl, balloc hb1 _⟩
end Go.Proofs.YtckkmafppfcecaaGreatDoor
