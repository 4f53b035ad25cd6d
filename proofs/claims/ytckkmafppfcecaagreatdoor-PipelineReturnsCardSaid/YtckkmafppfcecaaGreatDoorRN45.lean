/- Pb. -/
import Derived.Test.YtckkmafppfcecaaGreatDoorRN38
import Derived.Test.YtckkmafppfcecaaGreatDoorRN24
import Derived.Test.YtckkmafppfcecaaGreatDoorRN27
import Derived.Test.YtckkmafppfcecaaGreatDoorRN39
import Derived.Test.YtckkmafppfcecaaGreatDoorRN43
import Derived.Test.YtckkmafppfcecaaGreatDoorRN44
import Derived.Test.YtckkmafppfcecaaGreatDoorRN37
set_option maxRecDepth 100000
set_option maxHeartbeats 4000000
namespace Go.Proofs.YtckkmafppfcecaaGreatDoor
open Go.RowKit Go.Proofs
set_option linter.unusedVariables false
set_option linter.unusedSimpArgs false
def trI : Trf := fun k wd bs =>
  if k = 4 then (if 65536 < bs.length then [] else callsP (-1) bs, if 65536 < bs.length then 5 else 0)
  else if k = 5 then ((Dic.inverseQ bs).1, ((Dic.inverseQ bs).2 : Int))
  else if k = 6 then lzI bs
  else if k = 7 then Bwt.unpackRes bs
  else if k = 8 then (if 65536 < bs.length then [] else recI lst0 bs, if 65536 < bs.length then 5 else 0)
  else if k = 9 then expandP bs
  else if k = 1 then (if limD bs.length wd = 0 then deltaI wd.toNat bs else [], limD bs.length wd)
  else if k = 2 then (if limD bs.length wd = 0 then columnsI wd.toNat bs else [], limD bs.length wd)
  else (bs, 0)
theorem bw0 (T : World → Prop) : FwC T trI 4 0 := fun f B hf => ⟨55, #[], rfl, enters_of Tryz.func55 (by kernel_rfl) rfl, fun w A n c bs wd _ _ hx hn _ => ⟨same_any A n c wd bs w hx (by unfold LIM at hn; omega), fun _ => by show bs.length ≤ _; rw [hx.1]; exact hn⟩⟩
theorem bw3 (T : World → Prop) : FwC T trI 4 3 := fun f B hf => ⟨55, #[], rfl, enters_of Tryz.func55 (by kernel_rfl) rfl, fun w A n c bs wd _ _ hx hn _ => ⟨same_any A n c wd bs w hx (by unfold LIM at hn; omega), fun _ => by show bs.length ≤ _; rw [hx.1]; exact hn⟩⟩
theorem bw1 (T : World → Prop) : FwC T trI 4 1 := fun f B hf => ⟨57, #[], rfl, enters_of Tryz.func57 (by kernel_rfl) rfl, fun w A n c bs wd _ _ hx hn _ => by
  have h := deltaI_any A n c wd bs w hx (by unfold LIM at hn; omega)
  rw [← hx.1] at h ⊢
  exact ⟨h, fun h0 => by
    show (if limD bs.length wd = 0 then deltaI wd.toNat bs else []).length ≤ LIM
    have h0' : limD bs.length wd = 0 := h0
    rw [if_pos h0', deltaI_length, hx.1]; exact hn⟩⟩
theorem bw2 (T : World → Prop) : FwC T trI 4 2 := fun f B hf => ⟨59, #[], rfl, enters_of Tryz.func59 (by kernel_rfl) rfl, fun w A n c bs wd _ _ hx hn _ => by
  have h := columnsI_any A n c wd bs w hx (by unfold LIM at hn; omega)
  rw [← hx.1] at h ⊢
  exact ⟨h, fun h0 => by
    show (if limD bs.length wd = 0 then columnsI wd.toNat bs else []).length ≤ LIM
    have h0' : limD bs.length wd = 0 := h0
    rw [if_pos h0', columnsI_length, hx.1]; exact hn⟩⟩
theorem bwAll (T : World → Prop) : ∀ k, k < 10 → FwC T trI 4 k := by
  intro k hk
  match k, hk with
  | 0, _ => exact bw0 T
  | 1, _ => exact bw1 T
  | 2, _ => exact bw2 T
  | 3, _ => exact bw3 T
  | 4, _ =>
    refine fwPlain (i := 1) (g := 62) (by decide) (fun f => rfl) rfl (enters_of Tryz.func62 (by kernel_rfl) rfl) fun w A n c bs wd _ hx hn => ⟨?_, fun h0 => ?_⟩
    · have h := callsI_any A n c bs w hx (by unfold LIM at hn; omega)
      rw [← hx.1] at h ⊢
      exact h
    · show (if 65536 < bs.length then [] else callsP (-1) bs).length ≤ LIM
      split
      · exact Nat.zero_le _
      · rw [callsP_length, hx.1]; exact hn
  | 5, _ =>
    refine fwPlain (i := 3) (g := 64) (by decide) (fun f => rfl) rfl (enters_of Tryz.func64 (by kernel_rfl) rfl) fun w A n c bs wd _ hx hn => ⟨?_, fun h0 => ?_⟩
    · exact (Dic.inverseQ_any A n c bs w hx (by unfold LIM at hn; omega)).mono fun e w' h => h
    · exact Nat.le_trans (Dic.inverseQ_length bs) (by unfold LIM; omega)
  | 6, _ =>
    refine fwPlain (i := 5) (g := 66) (by decide) (fun f => rfl) rfl (enters_of Tryz.func66 (by kernel_rfl) rfl) fun w A n c bs wd _ hx hn => ⟨?_, fun h0 => ?_⟩
    · exact lzI_any A n c bs w hx (by unfold LIM at hn; omega)
    · exact Nat.le_trans (lzI_length bs) (by unfold LIM; omega)
  | 7, _ =>
    refine fwPlain (i := 7) (g := 68) (by decide) (fun f => rfl) rfl (enters_of Tryz.func68 (by kernel_rfl) rfl) fun w A n c bs wd _ hx hn => ⟨?_, fun h0 => ?_⟩
    · exact (Bwt.unpack_any A n c bs w hx (by unfold LIM at hn; omega)).mono fun e w' h => h
    · exact Nat.le_trans (Bwt.unpackRes_length bs) (by unfold LIM; omega)
  | 8, _ =>
    refine fwPlain (i := 9) (g := 70) (by decide) (fun f => rfl) rfl (enters_of Tryz.func70 (by kernel_rfl) rfl) fun w A n c bs wd _ hx hn => ⟨?_, fun h0 => ?_⟩
    · have h := recI_any A n c bs w hx (by unfold LIM at hn; omega)
      rw [← hx.1] at h ⊢
      exact h
    · show (if 65536 < bs.length then [] else recI lst0 bs).length ≤ LIM
      split
      · exact Nat.zero_le _
      · rw [recI_length, hx.1]; exact hn
  | 9, _ =>
    refine fwPlain (i := 11) (g := 72) (by decide) (fun f => rfl) rfl (enters_of Tryz.func72 (by kernel_rfl) rfl) fun w A n c bs wd _ hx hn => ⟨?_, fun h0 => ?_⟩
    · exact expand_any A n c bs w hx (by unfold LIM at hn; omega)
    · exact Nat.le_trans (expandP_length bs) (by unfold LIM; omega)
theorem trI_back : BackOk trF trI := by
  rintro k wd bs ⟨hk, hw⟩ hb h
  match k, hk with
  | 0, _ => rfl
  | 1, _ =>
    have h0 : limD bs.length wd = 0 := h
    have h1 := limD_ok h0
    show trI 1 wd (if limD bs.length wd = 0 then deltaF wd.toNat bs else []) = _
    rw [if_pos h0]
    show (if limD (deltaF wd.toNat bs).length wd = 0 then deltaI wd.toNat (deltaF wd.toNat bs) else [], limD (deltaF wd.toNat bs).length wd) = _
    rw [deltaF_length, h0, if_pos rfl, delta_back (by omega)]
  | 2, _ =>
    have h0 : limD bs.length wd = 0 := h
    have h1 := limD_ok h0
    show trI 2 wd (if limD bs.length wd = 0 then columnsF wd.toNat bs else []) = _
    rw [if_pos h0]
    show (if limD (columnsF wd.toNat bs).length wd = 0 then columnsI wd.toNat (columnsF wd.toNat bs) else [], limD (columnsF wd.toNat bs).length wd) = _
    rw [columnsF_length (by omega), h0, if_pos rfl, columns_back (by omega)]
  | 3, _ => rfl
  | 4, _ =>
    show trI 4 wd (if 65536 < bs.length then [] else callsP 1 bs) = _
    rw [if_neg (by omega)]
    show (if 65536 < (callsP 1 bs).length then [] else callsP (-1) (callsP 1 bs), if 65536 < (callsP 1 bs).length then (5 : Int) else 0) = _
    rw [callsP_length, if_neg (by omega), if_neg (by omega), calls_back]
  | 5, _ =>
    have h0 : (((Dic.forwardQ bs).2 : Nat) : Int) = 0 := h
    show ((Dic.inverseQ (Dic.forwardQ bs).1).1, (((Dic.inverseQ (Dic.forwardQ bs).1).2 : Nat) : Int)) = _
    rw [Dic.inverseQ_back (by omega)]
    rfl
  | 6, _ => exact lz_back h
  | 7, _ =>
    have h0 : (((Bwt.packQ bs).2 : Nat) : Int) = 0 := h
    exact Bwt.unpack_packQ (by omega)
  | 8, _ =>
    show trI 8 wd (if 65536 < bs.length then [] else recF lst0 bs) = _
    rw [if_neg (by omega)]
    show (if 65536 < (recF lst0 bs).length then [] else recI lst0 (recF lst0 bs), if 65536 < (recF lst0 bs).length then (5 : Int) else 0) = _
    rw [recF_length, if_neg (by omega), if_neg (by omega), rec_back bs lst0 lst0_full]
  | 9, _ => exact runs_back h
theorem limD_in {n : Nat} {wd : Int} (hn : n ≤ 65536) (hw : 1 ≤ wd ∧ wd ≤ 64) : limD n wd = 0 := by unfold limD; rw [if_neg (by omega), if_neg (by omega)]
theorem trF_err : ErrOk trF := by
  rintro k wd bs ⟨hk, hw⟩ hb
  match k, hk with
  | 0, _ => exact .inl rfl
  | 1, _ => exact .inl (limD_in hb (hw (.inl rfl)))
  | 2, _ => exact .inl (limD_in hb (hw (.inr rfl)))
  | 3, _ => exact .inl rfl
  | 4, _ => exact .inl (by show (if 65536 < bs.length then (5 : Int) else 0) = 0; rw [if_neg (by omega)])
  | 5, _ =>
    show (((Dic.forwardQ bs).2 : Nat) : Int) = 0 ∨ (((Dic.forwardQ bs).2 : Nat) : Int) = 5
    have := Dic.forwardQ_err bs
    omega
  | 6, _ => exact lzF_err bs
  | 7, _ =>
    show (((Bwt.packQ bs).2 : Nat) : Int) = 0 ∨ (((Bwt.packQ bs).2 : Nat) : Int) = 5
    by_cases h : (Bwt.packQ bs).2 = 0
    · exact .inl (by omega)
    · exact .inr (by have := Bwt.packQ_err h; omega)
  | 8, _ => exact .inl (by show (if 65536 < bs.length then (5 : Int) else 0) = 0; rw [if_neg (by omega)])
  | 9, _ => exact runsP_err bs
end Go.Proofs.YtckkmafppfcecaaGreatDoor
