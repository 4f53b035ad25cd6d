/- Pb. -/
import Derived.Test.YtohadkmaemmfgaaGreatDoorRI34
import Derived.Test.YtohadkmaemmfgaaGreatDoorRI24
import Derived.Test.YtohadkmaemmfgaaGreatDoorRI60
import Derived.Test.YtohadkmaemmfgaaGreatDoorRI35
import Derived.Test.YtohadkmaemmfgaaGreatDoorRI38
import Derived.Test.YtohadkmaemmfgaaGreatDoorRI40
import Derived.Test.YtohadkmaemmfgaaGreatDoorRI33
set_option maxRecDepth 100000
set_option maxHeartbeats 4000000
namespace Go.Proofs.YtohadkmaemmfgaaGreatDoor
open Go.RowKit Go.Proofs
set_option linter.unusedVariables false
set_option linter.unusedSimpArgs false
def trI : Trf := fun k wd bs =>
  if k = 4 then (if 65536 < bs.length then [] else callsP (-1) bs, if 65536 < bs.length then 5 else 0)
  else if k = 5 then ((Dic.inverseQ bs).1, ((Dic.inverseQ bs).2 : Int))
  else if k = 6 then lzI bs
  else if k = 7 then Bwt.unpackRes bs
  else if k = 8 then (if 65536 < bs.length then [] else recI lst0 bs, if 65536 < bs.length then 5 else 0)
  else if k = 9 then expandP bs
  else if k = 1 then (if limD bs.length wd = 0 then deltaI wd.toNat bs else [], limD bs.length wd)
  else if k = 2 then (if limD bs.length wd = 0 then columnsI wd.toNat bs else [], limD bs.length wd)
  else (bs, 0)
theorem bw0 (T : World → Prop) : FwC T trI 4 0 := fun f B hf => ⟨27, #[], rfl, enters_of Tryz.func27 (by kernel_rfl) rfl, fun w A n c bs wd _ _ hx hn _ => ⟨same_any A n c wd bs w hx (by unfold LIM at hn; omega), fun _ => by show bs.length ≤ _; rw [hx.1]; exact hn⟩⟩
theorem bw3 (T : World → Prop) : FwC T trI 4 3 := fun f B hf => ⟨27, #[], rfl, enters_of Tryz.func27 (by kernel_rfl) rfl, fun w A n c bs wd _ _ hx hn _ => ⟨same_any A n c wd bs w hx (by unfold LIM at hn; omega), fun _ => by show bs.length ≤ _; rw [hx.1]; exact hn⟩⟩
theorem bw1 (T : World → Prop) : FwC T trI 4 1 := fun f B hf => ⟨29, #[], rfl, enters_of Tryz.func29 (by kernel_rfl) rfl, fun w A n c bs wd _ _ hx hn _ => by
  have h := deltaI_any A n c wd bs w hx (by unfold LIM at hn; omega)
  rw [← hx.1] at h ⊢
  exact ⟨h, fun h0 => by
    show (if limD bs.length wd = 0 then deltaI wd.toNat bs else []).length ≤ LIM
    have h0' : limD bs.length wd = 0 := h0
    rw [if_pos h0', deltaI_length, hx.1]; exact hn⟩⟩
theorem bw2 (T : World → Prop) : FwC T trI 4 2 := fun f B hf => ⟨31, #[], rfl, enters_of Tryz.func31 (by kernel_rfl) rfl, fun w A n c bs wd _ _ hx hn _ => by
  have h := columnsI_any A n c wd bs w hx (by unfold LIM at hn; omega)
  rw [← hx.1] at h ⊢
  exact ⟨h, fun h0 => by
    show (if limD bs.length wd = 0 then columnsI wd.toNat bs else []).length ≤ LIM
    have h0' : limD bs.length wd = 0 := h0
    rw [if_pos h0', columnsI_length, hx.1]; exact hn⟩⟩
theorem bwAll (T : World → Prop) : ∀ k, k < 10 → FwC T trI 4 k := by
  intro k hk
  match k, hk with
  | 0, _ => exact bw0 T
  | 1, _ => exact bw1 T
  | 2, _ => exact bw2 T
  | 3, _ => exact bw3 T
  | 4, _ =>
    refine fwPlain (i := 1) (g := 34) (by decide) (fun f => rfl) rfl (enters_of Tryz.func34 (by kernel_rfl) rfl) fun w A n c bs wd _ hx hn => ⟨?_, fun h0 => ?_⟩
    · have h := callsI_any A n c bs w hx (by unfold LIM at hn; omega)
      rw [← hx.1] at h ⊢
      exact h
    · show (if 65536 < bs.length then [] else callsP (-1) bs).length ≤ LIM
      split
      · exact Nat.zero_le _
      · rw [callsP_length, hx.1]; exact hn
  | 5, _ =>
    refine fwPlain (i := 3) (g := 36) (by decide) (fun f => rfl) rfl (enters_of Tryz.func36 (by kernel_rfl) rfl) fun w A n c bs wd _ hx hn => ⟨?_, fun h0 => ?_⟩
    · exact (Dic.inverseQ_any A n c bs w hx (by unfold LIM at hn; omega)).mono fun e w' h => h
    · exact Nat.le_trans (Dic.inverseQ_length bs) (by unfold LIM; omega)
  | 6, _ =>
    refine fwPlain (i := 5) (g := 38) (by decide) (fun f => rfl) rfl (enters_of Tryz.func38 (by kernel_rfl) rfl) fun w A n c bs wd _ hx hn => ⟨?_, fun h0 => ?_⟩
    · exact lzI_any A n c bs w hx (by unfold LIM at hn; omega)
    · exact Nat.le_trans (lzI_length bs) (by unfold LIM; omega)
  | 7, _ =>
    refine fwPlain (i := 7) (g := 40) (by decide) (fun f => rfl) rfl (enters_of Tryz.func40 (by kernel_rfl) rfl) fun w A n c bs wd _ hx hn => ⟨?_, fun h0 => ?_⟩
    · exact (Bwt.unpack_any A n c bs w hx (by unfold LIM at hn; omega)).mono fun e w' h => h
    · exact Nat.le_trans (Bwt.unpackRes_length bs) (by unfold LIM; omega)
  | 8, _ =>
    refine fwPlain (i := 9) (g := 42) (by decide) (fun f => rfl) rfl (enters_of Tryz.func42 (by kernel_rfl) rfl) fun w A n c bs wd _ hx hn => ⟨?_, fun h0 => ?_⟩
    · have h := recI_any A n c bs w hx (by unfold LIM at hn; omega)
      rw [← hx.1] at h ⊢
      exact h
    · show (if 65536 < bs.length then [] else recI lst0 bs).length ≤ LIM
      split
      · exact Nat.zero_le _
      · rw [recI_length, hx.1]; exact hn
  | 9, _ =>
    refine fwPlain (i := 11) (g := 44) (by decide) (fun f => rfl) rfl (enters_of Tryz.func44 (by kernel_rfl) rfl) fun w A n c bs wd _ hx hn => ⟨?_, fun h0 => ?_⟩
    · exact expand_any A n c bs w hx (by unfold LIM at hn; omega)
    · exact Nat.le_trans (expandP_length bs) (by unfold LIM; omega)
end Go.Proofs.YtohadkmaemmfgaaGreatDoor
